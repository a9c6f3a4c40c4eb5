/- The world of four indexes beside the document's: Begin, set, changes. -/
import Derived.Test.YtjlkdadafddodaaE4
set_option linter.unusedVariables false
set_option linter.unusedSimpArgs false
namespace Go.Proofs.Ytjlkdadafddodaa
open Go Go.V Go.B

/-- One of the four: the program's index (or nil) and the document's. -/
structure En where
  q : Option Addr
  x : Ix
  F : List Nat
  d : Doc
structure EnAt (w : World) (cap : Nat) (e : En) : Prop where
  none_ : e.q = none → e.F = [] ∧ e.x.N = 0 ∧ (∀ k, e.x.cols k = none) ∧ e.d.rows = []
  some_ : e.q ≠ none → e.q = some ⟨e.x.q, 0, none⟩ ∧ IxAt w e.F (2 * cap) e.x
  ok : IxOk e.x
  rng : Rng e.x
  doc : DocR w e.d
  N : e.d.N = (e.x.N : Int)
  rel : Rel e.x e.d.rows
  dl : e.d.l ≤ cap
  dlt : ∀ b ∈ ownF e.d.A, b < w.heap.size
theorem EnAt.ext {G : List Nat} {w w' : World} {cap : Nat} {e : En} (h : EnAt w cap e) (x : Ext G w w') (hF : ∀ b ∈ e.F, b ∉ G) (hd : ∀ b ∈ ownF e.d.A, b ∉ G) : EnAt w' cap e :=
  ⟨h.none_, fun hq => ⟨(h.some_ hq).1, (h.some_ hq).2.ext x hF⟩, h.ok, h.rng, h.doc.ext x hd, h.N, h.rel, h.dl, fun b hb => Nat.lt_of_lt_of_le (h.dlt b hb) x.size⟩
theorem EnAt.ext0 {w w' : World} {cap : Nat} {e : En} (h : EnAt w cap e) (x : Ext [] w w') : EnAt w' cap e := h.ext x (by simp) (by simp)
theorem EnAt.more {w : World} {cap cap' : Nat} {e : En} (h : EnAt w cap e) (hc : cap ≤ cap') : EnAt w cap' e :=
  ⟨h.none_, fun hq => ⟨(h.some_ hq).1, (h.some_ hq).2.cnt (by omega)⟩, h.ok, h.rng, h.doc, h.N, h.rel, Nat.le_trans h.dl hc, h.dlt⟩
theorem EnAt.b {w : World} {cap : Nat} {e : En} (h : EnAt w cap e) (hc : cap ≤ 3500000000000) : IxB w e.q e.x := by
  by_cases hq : e.q = none
  · obtain ⟨h1, h2, h3, h4⟩ := h.none_ hq
    exact ⟨⟨.inl ⟨hq, h2, h3⟩, h.ok, fun k C hk => (by rw [h3] at hk; cases hk), h.rng⟩, fun hn => absurd hq hn⟩
  · obtain ⟨h1, h2⟩ := h.some_ hq
    exact ⟨⟨.inr ⟨_, _, h1, h2⟩, h.ok, fun k C hk => Nat.le_trans (h2.rows k C hk) (by omega), h.rng⟩, fun _ => ⟨_, _, h2, by omega⟩⟩
theorem EnAt.lt {w : World} {cap : Nat} {e : En} (h : EnAt w cap e) : ∀ b ∈ e.F, b < w.heap.size := fun b hb => by
  by_cases hq : e.q = none
  · rw [(h.none_ hq).1] at hb; cases hb
  · exact (h.some_ hq).2.lt b hb
def wsCells (es : Nat → En) : List Value := [.pointer (es 0).q, .pointer (es 1).q, .pointer (es 2).q, .pointer (es 3).q, .int .i64 (es 0).d.N, .slice (es 0).d.A (es 0).d.l (es 0).d.c, .int .i64 (es 1).d.N, .slice (es 1).d.A (es 1).d.l (es 1).d.c, .int .i64 (es 2).d.N, .slice (es 2).d.A (es 2).d.l (es 2).d.c, .int .i64 (es 3).d.N, .slice (es 3).d.A (es 3).d.l (es 3).d.c]
structure WAt (w : World) (base g cap : Nat) (es : Nat → En) : Prop where
  blk : BlkT w g (wsCells es) 62
  en : ∀ i, i < 4 → EnAt w cap (es i)
  dis : ∀ i j, i < 4 → j < 4 → i ≠ j → ∀ b ∈ (es i).F, b ∉ (es j).F
  doc : ∀ i j, i < 4 → j < 4 → ∀ b ∈ ownF (es i).d.A, b ∉ (es j).F
  gF : ∀ i, i < 4 → g ∉ (es i).F
  gd : ∀ i, i < 4 → g ∉ ownF (es i).d.A
  low : ∀ i, i < 4 → ∀ b ∈ (es i).F, base ≤ b
  gb : base ≤ g
theorem WAt.ext {G : List Nat} {w w' : World} {base g cap : Nat} {es : Nat → En} (h : WAt w base g cap es) (x : Ext G w w') (hg : g ∉ G) (hF : ∀ i, i < 4 → ∀ b ∈ (es i).F, b ∉ G) (hd : ∀ i, i < 4 → ∀ b ∈ ownF (es i).d.A, b ∉ G) : WAt w' base g cap es :=
  ⟨h.blk.ext x hg, fun i hi => (h.en i hi).ext x (hF i hi) (hd i hi), h.dis, h.doc, h.gF, h.gd, h.low, h.gb⟩
theorem WAt.ext0 {w w' : World} {base g cap : Nat} {es : Nat → En} (h : WAt w base g cap es) (x : Ext [] w w') : WAt w' base g cap es := h.ext x (by simp) (by simp) (by simp)
/-- Blocks behind w's are not the world's. -/
theorem WAt.extN {G : List Nat} {w w1 w' : World} {base g cap : Nat} {es : Nat → En} (h0 : WAt w base g cap es) (h : WAt w1 base g cap es) (x : Ext G w1 w') (hG : ∀ b ∈ G, w.heap.size ≤ b) : WAt w' base g cap es :=
  h.ext x (fun hm => by have := hG _ hm; have := h0.blk.lt; omega) (fun i hi b hb hm => by have := hG _ hm; have := (h0.en i hi).lt b hb; omega) (fun i hi b hb hm => by have := hG _ hm; have := (h0.en i hi).dlt b hb; omega)
theorem WAt.more {w : World} {base g cap cap' : Nat} {es : Nat → En} (h : WAt w base g cap es) (hc : cap ≤ cap') : WAt w base g cap' es := ⟨h.blk, fun i hi => (h.en i hi).more hc, h.dis, h.doc, h.gF, h.gd, h.low, h.gb⟩
section
variable {w : World} {base g cap : Nat} {es : Nat → En}
theorem four {i : Nat} (h : i < 4) : i = 0 ∨ i = 1 ∨ i = 2 ∨ i = 3 := by omega
theorem w_ptr {T : TypeId} (h : BlkT w g (wsCells es) T) {i : Nat} (hi : i < 4) : w.cell? (Addr.add (Addr.add ⟨g, 0, none⟩ 0) (Int.toNat (i : Int) * 1)) = some (.pointer (es i).q) := by
  rw [Int.toNat_natCast, Nat.mul_one]
  refine cadd2 h ?_
  rcases four hi with rfl | rfl | rfl | rfl <;> rfl
theorem w_size {T : TypeId} (h : BlkT w g (wsCells es) T) {i : Nat} (hi : i < 4) : w.cell? (Addr.add (Addr.add (Addr.add ⟨g, 0, none⟩ 4) (Int.toNat (i : Int) * 2)) 0) = some (.int .i64 (es i).d.N) := by
  rw [Int.toNat_natCast, Addr.add_zero']
  refine cadd2 h ?_
  rcases four hi with rfl | rfl | rfl | rfl <;> rfl
theorem w_doc {T : TypeId} (h : BlkT w g (wsCells es) T) {i : Nat} (hi : i < 4) : cellsC (fun a v => w.cell? a = some v) (Addr.add (Addr.add ⟨g, 0, none⟩ 4) (Int.toNat (i : Int) * 2)) [.int .i64 (es i).d.N, .slice (es i).d.A (es i).d.l (es i).d.c] := by
  rw [Int.toNat_natCast, Addr.add_add, Addr.add0]
  refine blk_cellsC h.blk fun j v hj => ?_
  rcases four hi with rfl | rfl | rfl | rfl <;>
  · match j, hj with
    | 0, hj => exact hj
    | 1, hj => exact hj
    | (n + 2), hj => simp at hj
end
theorem i26s : (Try.prog.info? 26).map (·.size) = some 1 := by kernel_rfl
def upd (es : Nat → En) (i : Nat) (e : En) : Nat → En := fun j => if j = i then e else es j
theorem upd_same (es : Nat → En) (i : Nat) (e : En) : upd es i e i = e := by simp [upd]
theorem upd_other (es : Nat → En) {i j : Nat} (e : En) (h : j ≠ i) : upd es i e j = es j := by simp [upd, h]
theorem w_storeQ {w : World} {g : Nat} {es : Nat → En} (h : BlkT w g (wsCells es) 62) {i : Nat} (hi : i < 4) (q : Option Addr) : ∃ w', (Instr.storeAt 26 (.pointer (some (Addr.add (Addr.add ⟨g, 0, none⟩ 0) (Int.toNat (i : Int) * 1)))) (.pointer q)).run Try.prog w = .ok () w' ∧ BlkT w' g (wsCells (upd es i { es i with q := q })) 62 ∧ Ext [g] w w' := by
  obtain ⟨w', h1, h2, h3⟩ := store1a (P := Try.prog) (t := 26) i26s h (i := i) (v := .pointer q) (by simp [wsCells]; omega) rfl rfl
  refine ⟨w', ?_, ?_, h3⟩
  · rw [Int.toNat_natCast, Nat.mul_one, Addr.add_zero']; exact h1
  · rcases four hi with rfl | rfl | rfl | rfl <;> exact h2
theorem w_storeD {w : World} {g : Nat} {es : Nat → En} (h : BlkT w g (wsCells es) 62) {i : Nat} (hi : i < 4) (d : Doc) : ∃ w', (Instr.storeAt 58 (.pointer (some (Addr.add (Addr.add ⟨g, 0, none⟩ 4) (Int.toNat (i : Int) * 2)))) (.agg #[.int .i64 d.N, .slice d.A d.l d.c])).run Try.prog w = .ok () w' ∧ BlkT w' g (wsCells (upd es i { es i with d := d })) 62 ∧ Ext [g] w w' := by
  obtain ⟨w', h1, h2, h3⟩ := storeN (P := Try.prog) (t := 58) (n := 2) (vs := d.cells) i58s h (o := 4 + i * 2) rfl (by simp [wsCells]; omega) (fun v hv => by
    simp only [Doc.cells, List.mem_cons, List.not_mem_nil, or_false] at hv
    rcases hv with rfl | rfl <;> rfl)
  refine ⟨w', ?_, ?_, h3⟩
  · rw [Int.toNat_natCast, Addr.add_add, Addr.add0]; exact h1
  · rcases four hi with rfl | rfl | rfl | rfl <;> exact h2
/-- One of them changed, then the world's block written. -/
theorem WAt.upd {w w1 w2 w3 : World} {base g cap cap' : Nat} {es es' : Nat → En} (h : WAt w base g cap es) {i : Nat} (hi : i < 4) {e' : En} (x1 : Ext (es i).F w w1) (gr : Grow w (es i).F e'.F) (hF : ∀ b ∈ e'.F, b < w1.heap.size) (x2 : Ext [] w1 w2) (at2 : EnAt w2 cap' e') (hd : ∀ b ∈ ownF e'.d.A, b ∈ ownF (es i).d.A ∨ w1.heap.size ≤ b) (hbase : base ≤ w.heap.size)
    (x3 : Ext [g] w2 w3) (hb : BlkT w3 g (wsCells es') 62) (hes : ∀ j, j < 4 → es' j = if j = i then e' else es j) (hc : cap ≤ cap') : WAt w3 base g cap' es' := by
  have z1 := x1.size
  have hg := h.blk.lt
  have mem : ∀ j, j < 4 → (j = i ∧ es' j = e') ∨ (j ≠ i ∧ es' j = es j) := fun j hj => by
    rw [hes j hj]
    by_cases e : j = i
    · left; exact ⟨e, if_pos e⟩
    · right; exact ⟨e, if_neg e⟩
  have gF' : g ∉ e'.F := fun hm => by
    rcases gr _ hm with h1 | h1
    · exact h.gF i hi h1
    · omega
  have gd' : g ∉ ownF e'.d.A := fun hm => by
    rcases hd _ hm with h1 | h1
    · exact h.gd i hi h1
    · omega
  refine ⟨hb, fun j hj => ?_, fun j k hj hk hne b hb' hm => ?_, fun j k hj hk b hb' hm => ?_, fun j hj => ?_, fun j hj => ?_, fun j hj b hb' => ?_, h.gb⟩
  · rcases mem j hj with ⟨_, e⟩ | ⟨hne, e⟩ <;> rw [e]
    · exact at2.ext x3 (fun b hb' => by simp; intro e2; exact gF' (e2 ▸ hb')) (fun b hb' => by simp; intro e2; exact gd' (e2 ▸ hb'))
    · have h1 := ((h.en j hj).ext x1 (fun b hb' => h.dis j i hj hi hne b hb') (fun b hb' => h.doc j i hj hi b hb')).ext0 x2
      exact (h1.ext x3 (fun b hb' => by simp; intro e2; exact h.gF j hj (e2 ▸ hb')) (fun b hb' => by simp; intro e2; exact h.gd j hj (e2 ▸ hb'))).more hc
  · rcases mem j hj with ⟨e1, e⟩ | ⟨hn1, e⟩ <;> rcases mem k hk with ⟨e2, f⟩ | ⟨hn2, f⟩ <;> rw [e] at hb' <;> rw [f] at hm
    · omega
    · rcases gr _ hb' with h1 | h1
      · exact h.dis i k hi hk (fun e3 => hn2 e3.symm) b h1 hm
      · have := (h.en k hk).lt b hm; omega
    · rcases gr _ hm with h1 | h1
      · exact h.dis j i hj hi hn1 b hb' h1
      · have := (h.en j hj).lt b hb'; omega
    · exact h.dis j k hj hk hne b hb' hm
  · rcases mem j hj with ⟨e1, e⟩ | ⟨hn1, e⟩ <;> rcases mem k hk with ⟨e2, f⟩ | ⟨hn2, f⟩ <;> rw [e] at hb' <;> rw [f] at hm
    · rcases hd _ hb' with h2 | h2
      · rcases gr _ hm with h1 | h1
        · exact h.doc i i hi hi b h2 h1
        · have := (h.en i hi).dlt b h2; omega
      · have := hF b hm; omega
    · rcases hd _ hb' with h2 | h2
      · exact h.doc i k hi hk b h2 hm
      · have := (h.en k hk).lt b hm; omega
    · rcases gr _ hm with h1 | h1
      · exact h.doc j i hj hi b hb' h1
      · have := (h.en j hj).dlt b hb'; omega
    · exact h.doc j k hj hk b hb' hm
  · rcases mem j hj with ⟨e1, e⟩ | ⟨hn1, e⟩ <;> rw [e]
    · exact gF'
    · exact h.gF j hj
  · rcases mem j hj with ⟨e1, e⟩ | ⟨hn1, e⟩ <;> rw [e]
    · exact gd'
    · exact h.gd j hj
  · rcases mem j hj with ⟨e1, e⟩ | ⟨hn1, e⟩ <;> rw [e] at hb'
    · rcases gr _ hb' with h1 | h1
      · exact h.low i hi b h1
      · omega
    · exact h.low j hj b hb'
/-- What stands behind a change of one of them. -/
structure WChg (w w' : World) (base g cap : Nat) (es es' : Nat → En) (i : Nat) : Prop where
  at_ : WAt w' base g cap es'
  ext : Ext (g :: (es i).F) w w'
  grow : Grow w (es i).F (es' i).F
  growD : ∀ b ∈ ownF (es' i).d.A, b ∈ ownF (es i).d.A ∨ w.heap.size ≤ b
  oth : ∀ j, j < 4 → j ≠ i → es' j = es j
theorem WChg.same {w w' : World} {base g cap cap' : Nat} {es : Nat → En} (h : WAt w base g cap es) (x : Ext [] w w') (hc : cap ≤ cap') (i : Nat) : WChg w w' base g cap' es es i := ⟨(h.ext0 x).more hc, x.up, Grow.refl _ _, fun b hb => .inl hb, fun _ _ _ => rfl⟩
/-- The answer of one of them. -/
theorem set_c {w : World} {base g cap : Nat} {es : Nat → En} (h : WAt w base g cap es) {i : Nat} (hi : i < 4) {p bw : Nat} {S : SetV} (hs : SetAt w p bw S) (hN : S.N = (es i).x.N) {xs : List Int} (hxs : S.mi = xs) {A : Option Addr} {l c : Nat} (hm : Ints w .i64 A l xs) {R : Ending → World → Prop} (k : ∀ w', Ext [] w w' → R (.returned (.bool true)) w') :
    Calls Try.prog 61 #[.pointer (some ⟨g, 0, none⟩), .int .i64 (i : Int), .pointer (some ⟨p, 0, none⟩), .slice A l c] w R := by
  apply berthlaw08_World_set_nf
  have hen := h.en i hi
  refine ptr_in (when_dec ⟨by omega, by omega⟩ ⟨_, w_ptr h.blk hi, ?_⟩)
  by_cases hq : (es i).q = none
  · rw [hq]
    have h0 := (hen.none_ hq).2.1
    have hc0 : S.count = 0 := (count_zero hs.ok).2 fun j => hs.ok.tail j (by omega)
    have hl : l = 0 := by rw [← hm.len, ← hxs, mi_length, hc0]
    refine sel_true rfl (Count_c hs.ref ⟨_, rfl, sel_true (by rw [hc0]; rfl) ?_⟩)
    subst hl
    exact k w (Ext.refl _ _)
  · have hq' : (es i).q.isNone = false := by
      cases hh : (es i).q with
      | none => exact absurd hh hq
      | some a => rfl
    refine sel_false hq' (ptr_in (when_dec ⟨by omega, by omega⟩ ⟨_, w_size h.blk hi, ?_⟩))
    rw [hen.N]
    exact isSet_c hs hN hxs hm fun w' e => ⟨_, rfl, k w' e⟩
end Go.Proofs.Ytjlkdadafddodaa
