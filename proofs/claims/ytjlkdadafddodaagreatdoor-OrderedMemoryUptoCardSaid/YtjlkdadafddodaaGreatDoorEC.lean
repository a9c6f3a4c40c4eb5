/- The world of four indexes beside the document's: Begin, set, changes. The world of four: a step that may change one of them. The world of four: the rows of a key. The world of four: the queries. The world of four: all its entries, its beginning, a step. -/
import Derived.Test.YtjlkdadafddodaaGreatDoorE4
set_option linter.unusedVariables false
set_option linter.unusedSimpArgs false
namespace Go.Proofs.YtjlkdadafddodaaGreatDoor
open Go Go.V Go.B

/-- One of the four: the program's index (or nil) and the document's. -/
structure En where
  q : Option Addr
  x : Ix
  F : List Nat
  d : Doc
structure EnAt (w : World) (cap : Nat) (e : En) : Prop where
  none_ : e.q = none → e.F = [] ∧ e.x.N = 0 ∧ (∀ k, e.x.cols k = none) ∧ e.d.rows = []
  some_ : e.q ≠ none → e.q = some ⟨e.x.q, 0, none⟩ ∧ IxAt w e.F (2 * cap) e.x
  ok : IxOk e.x
  rng : Rng e.x
  doc : DocR w e.d
  N : e.d.N = (e.x.N : Int)
  rel : Rel e.x e.d.rows
  dl : e.d.l ≤ cap
  dlt : ∀ b ∈ ownF e.d.A, b < w.heap.size
theorem EnAt.ext {G : List Nat} {w w' : World} {cap : Nat} {e : En} (h : EnAt w cap e) (x : Ext G w w') (hF : ∀ b ∈ e.F, b ∉ G) (hd : ∀ b ∈ ownF e.d.A, b ∉ G) : EnAt w' cap e :=
  ⟨h.none_, fun hq => ⟨(h.some_ hq).1, (h.some_ hq).2.ext x hF⟩, h.ok, h.rng, h.doc.ext x hd, h.N, h.rel, h.dl, fun b hb => Nat.lt_of_lt_of_le (h.dlt b hb) x.size⟩
theorem EnAt.ext0 {w w' : World} {cap : Nat} {e : En} (h : EnAt w cap e) (x : Ext [] w w') : EnAt w' cap e := h.ext x (by simp) (by simp)
theorem EnAt.more {w : World} {cap cap' : Nat} {e : En} (h : EnAt w cap e) (hc : cap ≤ cap') : EnAt w cap' e :=
  ⟨h.none_, fun hq => ⟨(h.some_ hq).1, (h.some_ hq).2.cnt (by omega)⟩, h.ok, h.rng, h.doc, h.N, h.rel, Nat.le_trans h.dl hc, h.dlt⟩
theorem EnAt.b {w : World} {cap : Nat} {e : En} (h : EnAt w cap e) (hc : cap ≤ 3500000000000) : IxB w e.q e.x := by
  by_cases hq : e.q = none
  · obtain ⟨h1, h2, h3, h4⟩ := h.none_ hq
    exact ⟨⟨.inl ⟨hq, h2, h3⟩, h.ok, fun k C hk => (by rw [h3] at hk; cases hk), h.rng⟩, fun hn => absurd hq hn⟩
  · obtain ⟨h1, h2⟩ := h.some_ hq
    exact ⟨⟨.inr ⟨_, _, h1, h2⟩, h.ok, fun k C hk => Nat.le_trans (h2.rows k C hk) (by omega), h.rng⟩, fun _ => ⟨_, _, h2, by omega⟩⟩
theorem EnAt.lt {w : World} {cap : Nat} {e : En} (h : EnAt w cap e) : ∀ b ∈ e.F, b < w.heap.size := fun b hb => by
  by_cases hq : e.q = none
  · rw [(h.none_ hq).1] at hb; cases hb
  · exact (h.some_ hq).2.lt b hb
def wsCells (es : Nat → En) : List Value := [.pointer (es 0).q, .pointer (es 1).q, .pointer (es 2).q, .pointer (es 3).q, .int .i64 (es 0).d.N, .slice (es 0).d.A (es 0).d.l (es 0).d.c, .int .i64 (es 1).d.N, .slice (es 1).d.A (es 1).d.l (es 1).d.c, .int .i64 (es 2).d.N, .slice (es 2).d.A (es 2).d.l (es 2).d.c, .int .i64 (es 3).d.N, .slice (es 3).d.A (es 3).d.l (es 3).d.c]
structure WAt (w : World) (base g cap : Nat) (es : Nat → En) : Prop where
  blk : BlkT w g (wsCells es) 39
  en : ∀ i, i < 4 → EnAt w cap (es i)
  dis : ∀ i j, i < 4 → j < 4 → i ≠ j → ∀ b ∈ (es i).F, b ∉ (es j).F
  doc : ∀ i j, i < 4 → j < 4 → ∀ b ∈ ownF (es i).d.A, b ∉ (es j).F
  gF : ∀ i, i < 4 → g ∉ (es i).F
  gd : ∀ i, i < 4 → g ∉ ownF (es i).d.A
  low : ∀ i, i < 4 → ∀ b ∈ (es i).F, base ≤ b
  gb : base ≤ g
theorem WAt.ext {G : List Nat} {w w' : World} {base g cap : Nat} {es : Nat → En} (h : WAt w base g cap es) (x : Ext G w w') (hg : g ∉ G) (hF : ∀ i, i < 4 → ∀ b ∈ (es i).F, b ∉ G) (hd : ∀ i, i < 4 → ∀ b ∈ ownF (es i).d.A, b ∉ G) : WAt w' base g cap es :=
  ⟨h.blk.ext x hg, fun i hi => (h.en i hi).ext x (hF i hi) (hd i hi), h.dis, h.doc, h.gF, h.gd, h.low, h.gb⟩
theorem WAt.ext0 {w w' : World} {base g cap : Nat} {es : Nat → En} (h : WAt w base g cap es) (x : Ext [] w w') : WAt w' base g cap es := h.ext x (by simp) (by simp) (by simp)
/-- Blocks behind w's are not the world's. -/
theorem WAt.extN {G : List Nat} {w w1 w' : World} {base g cap : Nat} {es : Nat → En} (h0 : WAt w base g cap es) (h : WAt w1 base g cap es) (x : Ext G w1 w') (hG : ∀ b ∈ G, w.heap.size ≤ b) : WAt w' base g cap es :=
  h.ext x (fun hm => by have := hG _ hm; have := h0.blk.lt; omega) (fun i hi b hb hm => by have := hG _ hm; have := (h0.en i hi).lt b hb; omega) (fun i hi b hb hm => by have := hG _ hm; have := (h0.en i hi).dlt b hb; omega)
theorem WAt.more {w : World} {base g cap cap' : Nat} {es : Nat → En} (h : WAt w base g cap es) (hc : cap ≤ cap') : WAt w base g cap' es := ⟨h.blk, fun i hi => (h.en i hi).more hc, h.dis, h.doc, h.gF, h.gd, h.low, h.gb⟩
section
variable {w : World} {base g cap : Nat} {es : Nat → En}
theorem four {i : Nat} (h : i < 4) : i = 0 ∨ i = 1 ∨ i = 2 ∨ i = 3 := by omega
theorem w_ptr {T : TypeId} (h : BlkT w g (wsCells es) T) {i : Nat} (hi : i < 4) : w.cell? (Addr.add (Addr.add ⟨g, 0, none⟩ 0) (Int.toNat (i : Int) * 1)) = some (.pointer (es i).q) := by
  rw [Int.toNat_natCast, Nat.mul_one]
  refine cadd2 h ?_
  rcases four hi with rfl | rfl | rfl | rfl <;> rfl
theorem w_size {T : TypeId} (h : BlkT w g (wsCells es) T) {i : Nat} (hi : i < 4) : w.cell? (Addr.add (Addr.add (Addr.add ⟨g, 0, none⟩ 4) (Int.toNat (i : Int) * 2)) 0) = some (.int .i64 (es i).d.N) := by
  rw [Int.toNat_natCast, Addr.add_zero']
  refine cadd2 h ?_
  rcases four hi with rfl | rfl | rfl | rfl <;> rfl
theorem w_doc {T : TypeId} (h : BlkT w g (wsCells es) T) {i : Nat} (hi : i < 4) : cellsC (fun a v => w.cell? a = some v) (Addr.add (Addr.add ⟨g, 0, none⟩ 4) (Int.toNat (i : Int) * 2)) [.int .i64 (es i).d.N, .slice (es i).d.A (es i).d.l (es i).d.c] := by
  rw [Int.toNat_natCast, Addr.add_add, Addr.add0]
  refine blk_cellsC h.blk fun j v hj => ?_
  rcases four hi with rfl | rfl | rfl | rfl <;>
  · match j, hj with
    | 0, hj => exact hj
    | 1, hj => exact hj
    | (n + 2), hj => simp at hj
end
theorem i26s : (Tryz.prog.info? 31).map (·.size) = some 1 := by kernel_rfl
def upd (es : Nat → En) (i : Nat) (e : En) : Nat → En := fun j => if j = i then e else es j
theorem upd_same (es : Nat → En) (i : Nat) (e : En) : upd es i e i = e := by simp [upd]
theorem upd_other (es : Nat → En) {i j : Nat} (e : En) (h : j ≠ i) : upd es i e j = es j := by simp [upd, h]
theorem w_storeQ {w : World} {g : Nat} {es : Nat → En} (h : BlkT w g (wsCells es) 39) {i : Nat} (hi : i < 4) (q : Option Addr) : ∃ w', (Instr.storeAt 31 (.pointer (some (Addr.add (Addr.add ⟨g, 0, none⟩ 0) (Int.toNat (i : Int) * 1)))) (.pointer q)).run Tryz.prog w = .ok () w' ∧ BlkT w' g (wsCells (upd es i { es i with q := q })) 39 ∧ Ext [g] w w' := by
  obtain ⟨w', h1, h2, h3⟩ := store1a (P := Tryz.prog) (t := 31) i26s h (i := i) (v := .pointer q) (by simp [wsCells]; omega) rfl rfl
  refine ⟨w', ?_, ?_, h3⟩
  · rw [Int.toNat_natCast, Nat.mul_one, Addr.add_zero']; exact h1
  · rcases four hi with rfl | rfl | rfl | rfl <;> exact h2
theorem w_storeD {w : World} {g : Nat} {es : Nat → En} (h : BlkT w g (wsCells es) 39) {i : Nat} (hi : i < 4) (d : Doc) : ∃ w', (Instr.storeAt 36 (.pointer (some (Addr.add (Addr.add ⟨g, 0, none⟩ 4) (Int.toNat (i : Int) * 2)))) (.agg #[.int .i64 d.N, .slice d.A d.l d.c])).run Tryz.prog w = .ok () w' ∧ BlkT w' g (wsCells (upd es i { es i with d := d })) 39 ∧ Ext [g] w w' := by
  obtain ⟨w', h1, h2, h3⟩ := storeN (P := Tryz.prog) (t := 36) (n := 2) (vs := d.cells) i58s h (o := 4 + i * 2) rfl (by simp [wsCells]; omega) (fun v hv => by
    simp only [Doc.cells, List.mem_cons, List.not_mem_nil, or_false] at hv
    rcases hv with rfl | rfl <;> rfl)
  refine ⟨w', ?_, ?_, h3⟩
  · rw [Int.toNat_natCast, Addr.add_add, Addr.add0]; exact h1
  · rcases four hi with rfl | rfl | rfl | rfl <;> exact h2
/-- One of them changed, then the world's block written. -/
theorem WAt.upd {w w1 w2 w3 : World} {base g cap cap' : Nat} {es es' : Nat → En} (h : WAt w base g cap es) {i : Nat} (hi : i < 4) {e' : En} (x1 : Ext (es i).F w w1) (gr : Grow w (es i).F e'.F) (hF : ∀ b ∈ e'.F, b < w1.heap.size) (x2 : Ext [] w1 w2) (at2 : EnAt w2 cap' e') (hd : ∀ b ∈ ownF e'.d.A, b ∈ ownF (es i).d.A ∨ w1.heap.size ≤ b) (hbase : base ≤ w.heap.size)
    (x3 : Ext [g] w2 w3) (hb : BlkT w3 g (wsCells es') 39) (hes : ∀ j, j < 4 → es' j = if j = i then e' else es j) (hc : cap ≤ cap') : WAt w3 base g cap' es' := by
  have z1 := x1.size
  have hg := h.blk.lt
  have mem : ∀ j, j < 4 → (j = i ∧ es' j = e') ∨ (j ≠ i ∧ es' j = es j) := fun j hj => by
    rw [hes j hj]
    by_cases e : j = i
    · left; exact ⟨e, if_pos e⟩
    · right; exact ⟨e, if_neg e⟩
  have gF' : g ∉ e'.F := fun hm => by
    rcases gr _ hm with h1 | h1
    · exact h.gF i hi h1
    · omega
  have gd' : g ∉ ownF e'.d.A := fun hm => by
    rcases hd _ hm with h1 | h1
    · exact h.gd i hi h1
    · omega
  refine ⟨hb, fun j hj => ?_, fun j k hj hk hne b hb' hm => ?_, fun j k hj hk b hb' hm => ?_, fun j hj => ?_, fun j hj => ?_, fun j hj b hb' => ?_, h.gb⟩
  · rcases mem j hj with ⟨_, e⟩ | ⟨hne, e⟩ <;> rw [e]
    · exact at2.ext x3 (fun b hb' => by simp; intro e2; exact gF' (e2 ▸ hb')) (fun b hb' => by simp; intro e2; exact gd' (e2 ▸ hb'))
    · have h1 := ((h.en j hj).ext x1 (fun b hb' => h.dis j i hj hi hne b hb') (fun b hb' => h.doc j i hj hi b hb')).ext0 x2
      exact (h1.ext x3 (fun b hb' => by simp; intro e2; exact h.gF j hj (e2 ▸ hb')) (fun b hb' => by simp; intro e2; exact h.gd j hj (e2 ▸ hb'))).more hc
  · rcases mem j hj with ⟨e1, e⟩ | ⟨hn1, e⟩ <;> rcases mem k hk with ⟨e2, f⟩ | ⟨hn2, f⟩ <;> rw [e] at hb' <;> rw [f] at hm
    · omega
    · rcases gr _ hb' with h1 | h1
      · exact h.dis i k hi hk (fun e3 => hn2 e3.symm) b h1 hm
      · have := (h.en k hk).lt b hm; omega
    · rcases gr _ hm with h1 | h1
      · exact h.dis j i hj hi hn1 b hb' h1
      · have := (h.en j hj).lt b hb'; omega
    · exact h.dis j k hj hk hne b hb' hm
  · rcases mem j hj with ⟨e1, e⟩ | ⟨hn1, e⟩ <;> rcases mem k hk with ⟨e2, f⟩ | ⟨hn2, f⟩ <;> rw [e] at hb' <;> rw [f] at hm
    · rcases hd _ hb' with h2 | h2
      · rcases gr _ hm with h1 | h1
        · exact h.doc i i hi hi b h2 h1
        · have := (h.en i hi).dlt b h2; omega
      · have := hF b hm; omega
    · rcases hd _ hb' with h2 | h2
      · exact h.doc i k hi hk b h2 hm
      · have := (h.en k hk).lt b hm; omega
    · rcases gr _ hm with h1 | h1
      · exact h.doc j i hj hi b hb' h1
      · have := (h.en j hj).dlt b hb'; omega
    · exact h.doc j k hj hk b hb' hm
  · rcases mem j hj with ⟨e1, e⟩ | ⟨hn1, e⟩ <;> rw [e]
    · exact gF'
    · exact h.gF j hj
  · rcases mem j hj with ⟨e1, e⟩ | ⟨hn1, e⟩ <;> rw [e]
    · exact gd'
    · exact h.gd j hj
  · rcases mem j hj with ⟨e1, e⟩ | ⟨hn1, e⟩ <;> rw [e] at hb'
    · rcases gr _ hb' with h1 | h1
      · exact h.low i hi b h1
      · omega
    · exact h.low j hj b hb'
/-- What stands behind a change of one of them. -/
structure WChg (w w' : World) (base g cap : Nat) (es es' : Nat → En) (i : Nat) : Prop where
  at_ : WAt w' base g cap es'
  ext : Ext (g :: (es i).F) w w'
  grow : Grow w (es i).F (es' i).F
  growD : ∀ b ∈ ownF (es' i).d.A, b ∈ ownF (es i).d.A ∨ w.heap.size ≤ b
  oth : ∀ j, j < 4 → j ≠ i → es' j = es j
theorem WChg.same {w w' : World} {base g cap cap' : Nat} {es : Nat → En} (h : WAt w base g cap es) (x : Ext [] w w') (hc : cap ≤ cap') (i : Nat) : WChg w w' base g cap' es es i := ⟨(h.ext0 x).more hc, x.up, Grow.refl _ _, fun b hb => .inl hb, fun _ _ _ => rfl⟩
/-- The answer of one of them. -/
theorem set_c {w : World} {base g cap : Nat} {es : Nat → En} (h : WAt w base g cap es) {i : Nat} (hi : i < 4) {p bw : Nat} {S : SetV} (hs : SetAt w p bw S) (hN : S.N = (es i).x.N) {xs : List Int} (hxs : S.mi = xs) {A : Option Addr} {l c : Nat} (hm : Ints w .i64 A l xs) {R : Ending → World → Prop} (k : ∀ w', Ext [] w w' → R (.returned (.bool true)) w') :
    Calls Tryz.prog 9 #[.pointer (some ⟨g, 0, none⟩), .int .i64 (i : Int), .pointer (some ⟨p, 0, none⟩), .slice A l c] w R := by
  apply berthlaw08_World_set_nf
  have hen := h.en i hi
  refine ptr_in (when_dec ⟨by omega, by omega⟩ ⟨_, w_ptr h.blk hi, ?_⟩)
  by_cases hq : (es i).q = none
  · rw [hq]
    have h0 := (hen.none_ hq).2.1
    have hc0 : S.count = 0 := (count_zero hs.ok).2 fun j => hs.ok.tail j (by omega)
    have hl : l = 0 := by rw [← hm.len, ← hxs, mi_length, hc0]
    refine sel_true rfl (Count_c hs.ref ⟨_, rfl, sel_true (by rw [hc0]; rfl) ?_⟩)
    subst hl
    exact k w (Ext.refl _ _)
  · have hq' : (es i).q.isNone = false := by
      cases hh : (es i).q with
      | none => exact absurd hh hq
      | some a => rfl
    refine sel_false hq' (ptr_in (when_dec ⟨by omega, by omega⟩ ⟨_, w_size h.blk hi, ?_⟩))
    rw [hen.N]
    exact isSet_c hs hN hxs hm fun w' e => ⟨_, rfl, k w' e⟩
end Go.Proofs.YtjlkdadafddodaaGreatDoor
namespace Go.Proofs.YtjlkdadafddodaaGreatDoor
open Go Go.V Go.B

theorem wsCells_congr {es es' : Nat → En} (h : ∀ j, j < 4 → (es j).q = (es' j).q ∧ (es j).d = (es' j).d) : wsCells es = wsCells es' := by
  unfold wsCells
  rw [(h 0 (by omega)).1, (h 1 (by omega)).1, (h 2 (by omega)).1, (h 3 (by omega)).1, (h 0 (by omega)).2, (h 1 (by omega)).2, (h 2 (by omega)).2, (h 3 (by omega)).2]
theorem isNone_ne {α : Type} {q : Option α} (h : q ≠ none) : q.isNone = false := by
  cases q with
  | none => exact absurd rfl h
  | some a => rfl
set_option maxRecDepth 8000 in
set_option maxHeartbeats 2000000 in
theorem changes_c {w : World} {base g cap : Nat} {es : Nat → En} (h : WAt w base g cap es) (hcap : cap ≤ 3500000000000) (hbase : base ≤ w.heap.size) {i : Nat} (hi : i < 4) {o : Op} {w0 : World} (hin : o.In w0) {R : Ending → World → Prop}
    (k : ∀ es' w', WChg w w' base g (cap + 1) es es' i → (o.kind ≠ 1 → (es' i).x.N = (es i).x.N) → R (.returned (.bool true)) w') :
    Calls Tryz.prog 21 #[.pointer (some ⟨g, 0, none⟩), .agg #[.int .i64 o.kind, .int .i64 o.at_, .int .i64 o.to, .string o.key, .int .i64 o.slot, .int .i64 o.n, .int .i64 o.cmp, .slice o.A o.l o.c], .int .i64 (i : Int)] w R := by
  have hen := h.en i hi
  have hg := h.blk.lt
  have fin : ∀ (F' : List Nat) (x' : Ix) (d' : Doc) (ne e : Int) (w43 w72 : World) (bx : Nat), Ext (es i).F w w43 → Grow w (es i).F F' → IxAt w43 F' (2 * cap + 2) x' → IxOk x' → Rng x' → x'.q = (es i).x.q → x'.N = (es i).x.N → Ext [] w43 w72 → DocR w72 d' → d'.N = (es i).d.N → d'.l ≤ cap + 1 → Rel x' d'.rows →
      (∀ b ∈ ownF d'.A, b ∈ ownF (es i).d.A ∨ w43.heap.size ≤ b ∧ b < w72.heap.size) → BlkT w72 bx d'.cells 36 → w43.heap.size ≤ bx → (es i).q ≠ none → ne = e → (∃ S73 : World → Prop, S73 (World.drew w72) ∧
  V.ptr (some (⟨bx, 0, none⟩ : Addr)) fun a75 =>
  ∃ n76, ∃ A77, ∃ A77l, ∃ A77c, V.cellsC (fun a_ x_ => ∀ w74, S73 w74 → World.cell? w74 a_ = some x_) a75 [(Value.int .i64 n76), (Value.slice A77 A77l A77c)] ∧
  V.ptr (some (⟨g, 0, none⟩ : Addr)) fun a78 =>
  V.when (decide ((0 : Int) ≤ (i : Int) ∧ ((i : Int) : Int) < 4)) (∃ w79, Sem.run Tryz.prog (Instr.storeAt 36 (Value.pointer (some (Addr.add (Addr.add a78 4) ((Int.toNat (i : Int)) * 2)))) (Value.agg #[(Value.int .i64 n76), (Value.slice A77 A77l A77c)])) (World.drew w72) = .ok () w79 ∧
  S73 w79 ∧
  R (Ending.returned (Value.bool (ne == e))) w79)) := by
    intro F' x' d' ne e w43 w72 bx x1 gr at1 ok1 rng1 q1 N1 x2 doc2 dN dl rel2 hd bb hbx hq hne
    have z1 := x1.size
    have z2 := x2.size
    have bw : BlkT w72 g (wsCells es) 39 := (h.blk.ext x1 (h.gF i hi)).ext0 x2
    have E72 : Ext [] w43 w72.drew := x2.drew
    obtain ⟨w79, hr79, b79, x79⟩ := w_storeD (w := w72.drew) bw.drew hi d'
    refine ⟨fun w' => BlkT w' bx d'.cells 36, bb.drew, ptr_in ⟨_, _, _, _, cellsC_S (fun w' hw => cadd0 hw), ptr_in (when_dec ⟨by omega, by omega⟩ ⟨w79, hr79, bb.drew.ext x79 (by simp; omega), ?_⟩)⟩⟩
    rw [hne, beq_self_eq_true]
    have hs := hen.some_ hq
    refine k (upd es i ⟨(es i).q, x', F', d'⟩) w79 ⟨?_, ?_, ?_, ?_, fun j hj hne => upd_other es _ hne⟩ fun _ => ?_
    · refine WAt.upd h hi (e' := ⟨(es i).q, x', F', d'⟩) x1 gr at1.lt E72 ⟨fun hn => absurd hn hq, fun _ => ⟨by rw [hs.1, q1], (at1.ext0 E72).cnt (by omega)⟩, ok1, rng1, doc2.ext0 (Ext.refl _ _).drew, ?_, rel2, dl, fun b hb => ?_⟩ (fun b hb => ?_) hbase x79 ?_ (fun j hj => rfl) (by omega)
      · show d'.N = (x'.N : Int)
        rw [dN, hen.N, N1]
      · rcases hd b hb with h1 | h1
        · have := hen.dlt b h1
          show b < w72.heap.size; omega
        · exact h1.2
      · rcases hd b hb with h1 | h1
        · exact .inl h1
        · exact .inr h1.1
      · rw [wsCells_congr (es' := upd es i { es i with d := d' })]
        · exact b79
        · intro j hj
          unfold upd
          split <;> exact ⟨rfl, rfl⟩
    · exact ((x1.weaken (G := g :: (es i).F) (fun b hb => .inl (by simp [hb]))).then E72).trans' x79 (fun b hb => .inl (by simp at hb; simp [hb]))
    · rw [upd_same]; exact gr
    · rw [upd_same]
      intro b hb
      rcases hd b hb with h1 | h1
      · exact .inl h1
      · exact .inr (by omega)
    · rw [upd_same]; exact N1
  apply berthlaw08_World_changes_nf
  intro w11 h11
  obtain ⟨b11, x11, z11⟩ := box_new (cs := o.cells) h11
  have bw11 := h.blk.ext0 x11
  have ob : w.heap.size ∉ (es i).F := fun hm => by have := hen.lt _ hm; omega
  refine ⟨_, cadd b11 rfl, sel_intro (fun hk => ?_) (fun hk1 => sel_intro (fun hk => ?_) (fun hk2 => sel_intro (fun hk => ?_) (fun hk3 => k es w11 (WChg.same h x11 (by omega) i) fun _ => rfl)))⟩
  · have hk : o.kind = 1 := eq_of_beq hk
    refine ⟨_, cadd b11 rfl, ?_⟩
    by_cases ho : 0 ≤ o.to ∧ o.to ≤ 65536
    · obtain ⟨n, hn⟩ : ∃ n : Nat, o.to = n := ⟨o.to.toNat, by omega⟩
      rw [hn]
      refine NewIx_c (n := n) (by omega) fun w17 F x e17 a17 k17 N17 v17 f17 => ⟨_, _, rfl, (n : Int), ?_, NewDoc_ok (n := n) (by omega) fun w23 e23 => ⟨_, _, _, _, _, rfl, fun w24 h24 => ?_⟩⟩
      · rw [← hn]; exact cadd (b11.ext0 e17) rfl
      obtain ⟨b24, x24, z24⟩ := doc_box (d := ⟨0, none, 0, 0, []⟩) h24
      obtain ⟨w25, hr25, b25, x25⟩ := doc_store b24 rfl ⟨(n : Int), none, 0, 0, []⟩
      have e17' := x11.trans e17
      have z17 := e17'.size
      have z23 := e23.size
      have E25 : Ext [] w17 w25.drew := ((e23.trans x24).trans' x25 (fun b hb => .inr (by simp at hb; omega))).drew
      refine ⟨w25, hr25, sel_false rfl (sel_false rfl (sel_true rfl ?_))⟩
      obtain ⟨w32, hr32, b32, x32⟩ := w_storeQ (h.blk.ext0 (e17'.trans E25)) hi (some ⟨x.q, 0, none⟩)
      obtain ⟨w33, hr33, b33, x33⟩ := w_storeD b32 hi ⟨(n : Int), none, 0, 0, []⟩
      have ng : w23.heap.size ∉ [g] := by simp; omega
      refine ⟨fun w' => BlkT w' w23.heap.size (Doc.cells ⟨(n : Int), none, 0, 0, []⟩) 36, b25.drew, _, _, _, _, cellsC_S (fun w' hw => cadd0 hw), ptr_in (when_dec ⟨by omega, by omega⟩ (ptr_in ⟨w32, hr32, b25.drew.ext x32 ng, when_dec ⟨by omega, by omega⟩ ⟨w33, hr33, (b25.drew.ext x32 ng).ext x33 ng, ?_⟩⟩))⟩
      have x3 : Ext [g] w25.drew w33 := x32.trans' x33 (fun b hb => .inl hb)
      have gr : Grow w (es i).F F := fun b hb => .inr (by have := f17 b hb; have := x11.size; omega)
      refine k (upd es i ⟨some ⟨x.q, 0, none⟩, x, F, ⟨(n : Int), none, 0, 0, []⟩⟩) w33 ⟨?_, ?_, ?_, ?_, fun j hj hne => upd_other es _ hne⟩ fun hn => absurd hk hn
      · refine WAt.upd h hi (e' := ⟨some ⟨x.q, 0, none⟩, x, F, ⟨(n : Int), none, 0, 0, []⟩⟩) e17'.up gr a17.lt E25 ⟨fun hn => (by cases hn), fun _ => ⟨rfl, (a17.ext0 E25).cnt (by omega)⟩, k17, fun k' j m hv => (by rw [v17] at hv; cases hv), ⟨Cells.nil _ _, rfl⟩, ?_, Rel.nil v17, Nat.zero_le _, fun b hb => (by cases hb)⟩ (fun b hb => (by cases hb)) hbase x3 ?_ (fun j hj => rfl) (by omega)
        · show (n : Int) = (x.N : Int)
          rw [N17]
        · refine (congrArg (fun cs => BlkT w33 g cs 39) (wsCells_congr fun j hj => ?_)).mp b33
          unfold upd
          by_cases e : j = i
          · subst e; simp
          · simp [e]
      · exact (e17'.trans E25).up.trans' x3 (fun b hb => .inl (by simp at hb; simp [hb]))
      · rw [upd_same]; exact gr
      · rw [upd_same]; intro b hb; cases hb
    · have hb : o.to < 0 ∨ 65536 < o.to := by omega
      refine NewIx_bad hb ⟨_, _, rfl, _, cadd b11 rfl, NewDoc_bad hb fun w23 e23 => ⟨_, _, _, _, _, rfl, fun w24 h24 => ?_⟩⟩
      obtain ⟨b24, x24, z24⟩ := doc_box (d := ⟨0, none, 0, 0, []⟩) h24
      obtain ⟨w25, hr25, b25, x25⟩ := doc_store b24 rfl ⟨0, none, 0, 0, []⟩
      have E25 : Ext [] w w25 := ((x11.trans e23).trans x24).trans' x25 (fun b hb => .inr (by have := (x11.trans e23).size; simp at hb; omega))
      exact ⟨w25, hr25, sel_false rfl (sel_false rfl (sel_false rfl (k es w25 (WChg.same h E25 (by omega) i) fun hn => absurd hk hn)))⟩
  · have hk : o.kind = 2 := eq_of_beq hk
    refine ⟨fun w' => BlkT w' g (wsCells es) 39 ∧ BlkT w' w.heap.size o.cells 29, ⟨bw11.drew, b11.drew⟩, ptr_in (when_dec ⟨by omega, by omega⟩ ⟨_, fun w' hw => w_ptr hw.1 hi, _, fun w' hw => cadd hw.2 rfl, _, fun w' hw => cadd hw.2 rfl, _, fun w' hw => cadd hw.2 rfl, ?_⟩)⟩
    by_cases hq : (es i).q = none
    · have hp := w_ptr (w := w11.drew) bw11.drew hi
      rw [hq] at hp ⊢
      exact Put_nil _ _ _ ⟨_, rfl, ⟨bw11.drew, b11.drew⟩, ptr_in (when_dec ⟨by omega, by omega⟩ ⟨_, hp, sel_true rfl (k es w11.drew (WChg.same h x11.drew (by omega) i) fun _ => rfl)⟩)⟩
    · obtain ⟨hq', hat⟩ := hen.some_ hq
      have d11 : Ext [] w w11.drew := x11.drew
      rw [hq']
      refine Put_c (hat.ext0 d11) hen.ok (by omega) o.key o.slot o.n fun w43 F' x' ch hv => ?_
      have x1 : Ext (es i).F w w43 := d11.up.trans' ch.ext (fun b hb => .inl hb)
      have z1 := x1.size
      have z43 : w.heap.size + 1 ≤ w43.heap.size := by
        have h1 : w11.heap.size ≤ w43.heap.size := ch.ext.size
        omega
      have bw43 := bw11.drew.ext ch.ext (h.gF i hi)
      have ob43 := b11.drew.ext ch.ext ob
      have doc43 := (hen.doc.ext0 d11).ext ch.ext (fun b hb => h.doc i i hi hi b hb)
      have gr : Grow w (es i).F F' := fun b hb => by
        rcases ch.grow b hb with h1 | h1
        · exact .inl h1
        · exact .inr (by have := d11.size; omega)
      have hbd : (es i).d.l ≤ 4000000000000 := by have := hen.dl; omega
      have hcl : ∀ (d' : Doc) (e : Int), PutD (es i).d d' o.key o.slot o.n e → d'.l ≤ cap + 1 := fun d' e pd => by
        have := hen.dl
        rcases pd.alt with ⟨_, _, h1, _⟩ | ⟨_, _, h1⟩ <;> omega
      refine ⟨_, rfl, ⟨bw43, ob43⟩, ptr_in (when_dec ⟨by omega, by omega⟩ ⟨_, w_ptr bw43 hi, sel_false (isNone_ne hq) ?_⟩)⟩
      refine ⟨fun m f w' => ∃ (d' : Doc) (bx : Nat), m = some ⟨bx, 0, none⟩ ∧ Ext [] w43 w' ∧ DocR w' d' ∧ d'.N = (es i).d.N ∧ d'.l ≤ cap + 1 ∧ putE (es i).x o.key o.slot = f ∧ Rel x' d'.rows ∧ (∀ b ∈ ownF d'.A, b ∈ ownF (es i).d.A ∨ w43.heap.size ≤ b ∧ b < w'.heap.size) ∧ BlkT w' bx d'.cells 36 ∧ w43.heap.size ≤ bx, ?_, ?_⟩
      · refine ⟨fun w' => BlkT w' g (wsCells es) 39 ∧ BlkT w' w.heap.size o.cells 29, ⟨bw43.drew, ob43.drew⟩, ptr_in (when_dec ⟨by omega, by omega⟩ ⟨_, _, _, _, cellsC_S (fun w' hw => w_doc hw.1 hi), _, fun w' hw => cadd hw.2 rfl, _, fun w' hw => cadd hw.2 rfl, _, fun w' hw => cadd hw.2 rfl, ?_, ?_, trivial⟩)⟩
        · refine DocPut_c (w := w43.drew) hen.N (doc43.ext0 (Ext.refl _ _).drew) hbd o.key o.slot o.n fun d' e w59 e59 r59 pd h1 h2 hf => ⟨_, _, _, _, _, rfl, ⟨bw43.drew.ext0 e59, ob43.drew.ext0 e59⟩, fun w60 h60 => ?_⟩
          obtain ⟨b60, x60, z60⟩ := doc_box (d := ⟨0, none, 0, 0, []⟩) h60
          obtain ⟨w61, hr61, b61, x61⟩ := doc_store b60 rfl d'
          have e59' : Ext [] w43 w59 := e59.undrew
          have z59 := e59'.size
          have z61 := x61.size
          have hp := hen.rel.put pd h1 h2 hv
          refine ⟨⟨(bw43.drew.ext0 e59).ext0 x60, (ob43.drew.ext0 e59).ext0 x60⟩, w61, hr61, ⟨((bw43.drew.ext0 e59).ext0 x60).ext x61 (by simp; omega), ((ob43.drew.ext0 e59).ext0 x60).ext x61 (by simp; omega)⟩, d', _, rfl, ?_, ?_, pd.N, hcl d' e pd, hp.1, hp.2, fun b hb => ?_, b61, z59⟩
          · exact (e59'.trans x60).trans' x61 (fun b hb => .inr (by simp at hb; omega))
          · refine (r59.ext0 x60).ext x61 (fun b hb => ?_)
            rcases hf b hb with h3 | h3
            · have := hen.dlt b h3; simp; omega
            · simp; omega
          · rcases hf b hb with h3 | h3
            · exact .inl h3
            · exact .inr ⟨h3.1, by omega⟩
        · intro w62 h62
          obtain ⟨b62, x62, z62⟩ := doc_box (d := ⟨0, none, 0, 0, []⟩) h62
          refine ⟨⟨bw43.drew.ext0 x62, ob43.drew.ext0 x62⟩, ?_⟩
          refine DocPut_c (w := w62) hen.N ((doc43.ext0 (Ext.refl _ _).drew).ext0 x62) hbd o.key o.slot o.n fun d' e w67 e67 r67 pd h1 h2 hf => ⟨_, _, _, _, _, rfl, ⟨(bw43.drew.ext0 x62).ext0 e67, (ob43.drew.ext0 x62).ext0 e67⟩, ?_⟩
          obtain ⟨w68, hr68, b68, x68⟩ := doc_store (b62.ext0 e67) rfl d'
          have x62' : Ext [] w43 w62 := x62.undrew
          have z62' : w62.heap.size = w43.heap.size + 1 := z62
          have z67 := e67.size
          have z68 := x68.size
          have hbx : (World.drew w43).heap.size = w43.heap.size := rfl
          have hp := hen.rel.put pd h1 h2 hv
          refine ⟨w68, hr68, ⟨((bw43.drew.ext0 x62).ext0 e67).ext x68 (by simp; omega), ((ob43.drew.ext0 x62).ext0 e67).ext x68 (by simp; omega)⟩, d', _, rfl, ?_, ?_, pd.N, hcl d' e pd, hp.1, hp.2, fun b hb => ?_, b68, by omega⟩
          · exact (x62'.trans e67).trans' x68 (fun b hb => .inr (by simp at hb; omega))
          · refine r67.ext x68 (fun b hb => ?_)
            rcases hf b hb with h3 | h3
            · have := hen.dlt b h3; simp; omega
            · simp; omega
          · rcases hf b hb with h3 | h3
            · exact .inl h3
            · exact .inr ⟨by omega, by omega⟩
      · rintro _ e _ w72 ⟨d', bx, rfl, g1, g2, g3, g4, g5, g6, g7, g8, g9⟩
        exact fin F' x' d' _ e w43 w72 bx x1 gr (ch.at_.cnt (by omega)) ch.ok (hen.rng.put hin.n0 hin.n1 hv) ch.q ch.N g1 g2 g3 g4 g6 g7 g8 g9 hq g5
  · have hk : o.kind = 3 := eq_of_beq hk
    refine ⟨fun w' => BlkT w' g (wsCells es) 39 ∧ BlkT w' w.heap.size o.cells 29, ⟨bw11.drew, b11.drew⟩, ptr_in (when_dec ⟨by omega, by omega⟩ ⟨_, fun w' hw => w_ptr hw.1 hi, _, fun w' hw => cadd hw.2 rfl, _, fun w' hw => cadd hw.2 rfl, ?_⟩)⟩
    by_cases hq : (es i).q = none
    · have hp := w_ptr (w := w11.drew) bw11.drew hi
      rw [hq] at hp ⊢
      exact Del_nil _ _ ⟨_, rfl, ⟨bw11.drew, b11.drew⟩, ptr_in (when_dec ⟨by omega, by omega⟩ ⟨_, hp, sel_true rfl (k es w11.drew (WChg.same h x11.drew (by omega) i) fun _ => rfl)⟩)⟩
    · obtain ⟨hq', hat⟩ := hen.some_ hq
      have d11 : Ext [] w w11.drew := x11.drew
      rw [hq']
      refine Del_c (hat.ext0 d11) hen.ok (by omega) o.key o.slot fun w43 F' x' ch hv => ?_
      have x1 : Ext (es i).F w w43 := d11.up.trans' ch.ext (fun b hb => .inl hb)
      have z1 := x1.size
      have z43 : w.heap.size + 1 ≤ w43.heap.size := by
        have h1 : w11.heap.size ≤ w43.heap.size := ch.ext.size
        omega
      have bw43 := bw11.drew.ext ch.ext (h.gF i hi)
      have ob43 := b11.drew.ext ch.ext ob
      have doc43 := (hen.doc.ext0 d11).ext ch.ext (fun b hb => h.doc i i hi hi b hb)
      have gr : Grow w (es i).F F' := fun b hb => by
        rcases ch.grow b hb with h1 | h1
        · exact .inl h1
        · exact .inr (by have := d11.size; omega)
      have hbd : (es i).d.l ≤ 4000000000000 := by have := hen.dl; omega
      have hcl : ∀ (d' : Doc) (e : Int), DelD (es i).d d' o.key o.slot e → d'.l ≤ cap + 1 := fun d' e pd => by
        have := hen.dl
        have := pd.l
        omega
      refine ⟨_, rfl, ⟨bw43, ob43⟩, ptr_in (when_dec ⟨by omega, by omega⟩ ⟨_, w_ptr bw43 hi, sel_false (isNone_ne hq) ?_⟩)⟩
      refine ⟨fun m f w' => ∃ (d' : Doc) (bx : Nat), m = some ⟨bx, 0, none⟩ ∧ Ext [] w43 w' ∧ DocR w' d' ∧ d'.N = (es i).d.N ∧ d'.l ≤ cap + 1 ∧ delE (es i).x o.key o.slot = f ∧ Rel x' d'.rows ∧ (∀ b ∈ ownF d'.A, b ∈ ownF (es i).d.A ∨ w43.heap.size ≤ b ∧ b < w'.heap.size) ∧ BlkT w' bx d'.cells 36 ∧ w43.heap.size ≤ bx, ?_, ?_⟩
      · refine ⟨fun w' => BlkT w' g (wsCells es) 39 ∧ BlkT w' w.heap.size o.cells 29, ⟨bw43.drew, ob43.drew⟩, ptr_in (when_dec ⟨by omega, by omega⟩ ⟨_, _, _, _, cellsC_S (fun w' hw => w_doc hw.1 hi), _, fun w' hw => cadd hw.2 rfl, _, fun w' hw => cadd hw.2 rfl, ?_, ?_, trivial⟩)⟩
        · refine DocDel_c (w := w43.drew) hen.N (doc43.ext0 (Ext.refl _ _).drew) hbd o.key o.slot fun d' e w59 e59 r59 pd h1 h2 hf => ⟨_, _, _, _, _, rfl, ⟨bw43.drew.ext0 e59, ob43.drew.ext0 e59⟩, fun w60 h60 => ?_⟩
          obtain ⟨b60, x60, z60⟩ := doc_box (d := ⟨0, none, 0, 0, []⟩) h60
          obtain ⟨w61, hr61, b61, x61⟩ := doc_store b60 rfl d'
          have e59' : Ext [] w43 w59 := e59.undrew
          have z59 := e59'.size
          have z61 := x61.size
          have hp := hen.rel.del pd h1 h2 hv
          refine ⟨⟨(bw43.drew.ext0 e59).ext0 x60, (ob43.drew.ext0 e59).ext0 x60⟩, w61, hr61, ⟨((bw43.drew.ext0 e59).ext0 x60).ext x61 (by simp; omega), ((ob43.drew.ext0 e59).ext0 x60).ext x61 (by simp; omega)⟩, d', _, rfl, ?_, ?_, pd.N, hcl d' e pd, hp.1, hp.2, fun b hb => ?_, b61, z59⟩
          · exact (e59'.trans x60).trans' x61 (fun b hb => .inr (by simp at hb; omega))
          · refine (r59.ext0 x60).ext x61 (fun b hb => ?_)
            rcases hf b hb with h3 | h3
            · have := hen.dlt b h3; simp; omega
            · simp; omega
          · rcases hf b hb with h3 | h3
            · exact .inl h3
            · exact .inr ⟨h3.1, by omega⟩
        · intro w62 h62
          obtain ⟨b62, x62, z62⟩ := doc_box (d := ⟨0, none, 0, 0, []⟩) h62
          refine ⟨⟨bw43.drew.ext0 x62, ob43.drew.ext0 x62⟩, ?_⟩
          refine DocDel_c (w := w62) hen.N ((doc43.ext0 (Ext.refl _ _).drew).ext0 x62) hbd o.key o.slot fun d' e w67 e67 r67 pd h1 h2 hf => ⟨_, _, _, _, _, rfl, ⟨(bw43.drew.ext0 x62).ext0 e67, (ob43.drew.ext0 x62).ext0 e67⟩, ?_⟩
          obtain ⟨w68, hr68, b68, x68⟩ := doc_store (b62.ext0 e67) rfl d'
          have x62' : Ext [] w43 w62 := x62.undrew
          have z62' : w62.heap.size = w43.heap.size + 1 := z62
          have z67 := e67.size
          have z68 := x68.size
          have hbx : (World.drew w43).heap.size = w43.heap.size := rfl
          have hp := hen.rel.del pd h1 h2 hv
          refine ⟨w68, hr68, ⟨((bw43.drew.ext0 x62).ext0 e67).ext x68 (by simp; omega), ((ob43.drew.ext0 x62).ext0 e67).ext x68 (by simp; omega)⟩, d', _, rfl, ?_, ?_, pd.N, hcl d' e pd, hp.1, hp.2, fun b hb => ?_, b68, by omega⟩
          · exact (x62'.trans e67).trans' x68 (fun b hb => .inr (by simp at hb; omega))
          · refine r67.ext x68 (fun b hb => ?_)
            rcases hf b hb with h3 | h3
            · have := hen.dlt b h3; simp; omega
            · simp; omega
          · rcases hf b hb with h3 | h3
            · exact .inl h3
            · exact .inr ⟨by omega, by omega⟩
      · rintro _ e _ w72 ⟨d', bx, rfl, g1, g2, g3, g4, g5, g6, g7, g8, g9⟩
        exact fin F' x' d' _ e w43 w72 bx x1 gr (ch.at_.cnt (by omega)) ch.ok (hen.rng.del hv) ch.q ch.N g1 g2 g3 g4 g6 g7 g8 g9 hq g5
end Go.Proofs.YtjlkdadafddodaaGreatDoor
namespace Go.Proofs.YtjlkdadafddodaaGreatDoor
open Go Go.V Go.B

theorem i4s : (Tryz.prog.info? 4).map (·.size) = some 1 := by kernel_rfl
theorem i37s : (Tryz.prog.info? 23).map (·.size) = some 1 := by kernel_rfl
theorem mem_tell {a b : List Rw} (h : a.map Rw.tell = b.map Rw.tell) {r : Rw} (hr : r ∈ a) : ∃ s ∈ b, s.n = r.n ∧ s.S = r.S := by
  have : r.tell ∈ b.map Rw.tell := by rw [← h]; exact List.mem_map.2 ⟨r, hr, rfl⟩
  obtain ⟨s, hs, e⟩ := List.mem_map.1 this
  injection e with e1 e2
  exact ⟨s, hs, e1, e2⟩
theorem tell_n {a b : List Rw} (h : a.map Rw.tell = b.map Rw.tell) : a.map (·.n) = b.map (·.n) := by
  have := congrArg (List.map (·.1)) h
  rw [List.map_map, List.map_map] at this
  exact this
/-- The row's set, as the document has it. -/
theorem row_mi {x : Ix} {rows : List DR} (h : Rel x rows) (ok : IxOk x) {key : ByteArray} {rs : List Rw} (tl : rs.map Rw.tell = (x.colOf key).rows.map Rw.tell) {y : Rw} (hy : y ∈ rs) (hS : y.S.Ok) {ys : List Int} (hr : RiseL ys) (hys : ∀ z, z ∈ ys ↔ ∃ r ∈ rows, (r.key = key ∧ y.n ≤ r.n ∧ r.n ≤ y.n) ∧ r.slot = z) : y.S.mi = ys ∧ y.S.N = x.N := by
  obtain ⟨s, hs, e1, e2⟩ := mem_tell tl hy
  refine ⟨h.mi ok (key := key) (Q := fun a => y.n ≤ a ∧ a ≤ y.n) hS (φ := fun i => ∃ a, x.val key (i : Int) = some a ∧ (y.n ≤ a ∧ a ≤ y.n)) (fun i => ?_) (fun i => Iff.rfl) hr hys, ?_⟩
  · rw [← e2, row_mem ok hs, e1]
  · rw [← e2]; exact (ok.colOf key).1.size s hs
set_option maxRecDepth 8000 in
set_option maxHeartbeats 4000000 in
theorem rows_c {w : World} {base g cap : Nat} {es : Nat → En} (h : WAt w base g cap es) (hcap : cap ≤ 3500000000000) {i : Nat} (hi : i < 4) (key : ByteArray) (n : Int) {R : Ending → World → Prop} (k : ∀ w', Ext [] w w' → R (.returned (.bool true)) w') :
    Calls Tryz.prog 36 #[.pointer (some ⟨g, 0, none⟩), .int .i64 (i : Int), .string key, .int .i64 n] w R := by
  apply berthlaw08_World_rows_nf
  intro w5 h5 w6 h6 w7 h7 w8 h8 w9 h9
  obtain ⟨b5, x5, z5⟩ := box_new (cs := [.pointer (some ⟨g, 0, none⟩)]) h5
  obtain ⟨b6, x6, z6⟩ := box_new (cs := [.int .i64 (i : Int)]) h6
  obtain ⟨b7, x7, z7⟩ := box_new (cs := [.string key]) h7
  obtain ⟨b8, x8, z8⟩ := box_new (cs := [.int .i64 n]) h8
  obtain ⟨b9, x9, z9⟩ := box_new (cs := [.bool false]) h9
  have E9 : Ext [] w w9 := (((x5.trans x6).trans x7).trans x8).trans x9
  have bW := (((b5.ext0 x6).ext0 x7).ext0 x8).ext0 x9
  have bI := ((b6.ext0 x7).ext0 x8).ext0 x9
  have bK := (b7.ext0 x8).ext0 x9
  have bN := b8.ext0 x9
  have h9w := h.ext0 E9
  have hen := h.en i hi
  obtain ⟨x, hx⟩ : ∃ x, (es i).x = x := ⟨_, rfl⟩
  obtain ⟨d, hd⟩ : ∃ d, (es i).d = d := ⟨_, rfl⟩
  have rel : Rel x d.rows := by rw [← hx, ← hd]; exact hen.rel
  have ok : IxOk x := by rw [← hx]; exact hen.ok
  have G9 : IxG w9 (es i).q x := by rw [← hx]; exact ((hen.ext0 E9).b (by omega)).g
  have D9 : DocR w9 d := by rw [← hd]; exact hen.doc.ext0 E9
  have dl : d.l ≤ 4000000000000 := by rw [← hd]; have := hen.dl; omega
  have hN : d.N = (x.N : Int) := by rw [← hd, ← hx]; exact hen.N
  refine ⟨_, bN.cell (i := 0) rfl, sel_dec (fun hle => ?_) (fun hpos => ?_)⟩
  · obtain ⟨w11, hr11, b11, x11⟩ := store1 (P := Tryz.prog) (v := .bool true) i4s b9 (i := 0) (by simp) rfl rfl
    have b11 : BlkT w11 w8.heap.size [.bool true] 4 := by simpa using b11
    exact ⟨w11, hr11, _, b11.cell (i := 0) rfl, k w11 (E9.trans' x11 (fun b hb => .inr (by simp at hb; omega)))⟩
  have hpos : 0 < n := by omega
  refine ⟨fun want w' => ∃ (bx : Nat) (B : Option Addr) (m c : Nat) (ys : List Int), want = some ⟨bx, 0, none⟩ ∧ Ext [] w9 w' ∧ BlkT w' bx [.slice B m c] 23 ∧ Cells w' B (IL.flat ys) ∧ ys.length = m ∧ ys = (x.colOf key).rows.map (·.n) ∧ w9.heap.size ≤ bx ∧ (∀ b ∈ ownF B, b < w'.heap.size), ?_, ?_⟩
  · refine ⟨fun w' => Ext [] w9 w', (Ext.refl _ _).drew, _, fun w' e => (bW.ext0 e).cell (i := 0) rfl, _, fun w' e => (bI.ext0 e).cell (i := 0) rfl, ptr_in (when_dec ⟨by omega, by omega⟩ ⟨_, _, _, _, cellsC_S (fun w' e => w_doc (h9w.ext0 e).blk hi), _, fun w' e => (bK.ext0 e).cell (i := 0) rfl, ?_, ?_, trivial⟩)⟩
    · rw [hd]
      refine DocNumbers_c (w := w9.drew) (D9.ext0 (Ext.refl _ _).drew) dl key fun B m c ys w24 e24 own hr hm => ⟨_, _, _, rfl, e24.undrew, fun w25 h25 => ?_⟩
      obtain ⟨b25, x25, z25⟩ := box_new (cs := [.slice none 0 0]) h25
      obtain ⟨w26, hr26, b26, x26⟩ := store1 (P := Tryz.prog) (v := .slice B m c) i37s b25 (i := 0) (by simp) rfl rfl
      have gb := own.base
      have z24 : w9.heap.size ≤ w24.heap.size := e24.size
      refine ⟨e24.undrew.trans x25, w26, hr26, w24.heap.size, B, m, c, ys, rfl, (e24.undrew.trans x25).trans' x26 (fun b hb => .inr (by simp at hb; omega)), by simpa using b26, ((own.ext0 x25).ext x26 (fun b hb => by have := gb b hb; simp; omega)).cells, own.len, rel.nums ok hr hm, z24, fun b hb => by have := gb b hb; have := x26.size; omega⟩
    · intro w27 h27
      obtain ⟨b27, x27, z27⟩ := box_new (cs := [.slice none 0 0]) h27
      have z27 : w27.heap.size = w9.heap.size + 1 := z27
      rw [hd]
      refine ⟨x27.undrew, DocNumbers_c (w := w27) ((D9.ext0 (Ext.refl _ _).drew).ext0 x27) dl key fun B m c ys w30 e30 own hr hm => ⟨_, _, _, rfl, x27.undrew.trans e30, ?_⟩⟩
      obtain ⟨w31, hr31, b31, x31⟩ := store1 (P := Tryz.prog) (v := .slice B m c) i37s (b27.ext0 e30) (i := 0) (by simp) rfl rfl
      have gb := own.base
      have hs9 : (World.drew w9).heap.size = w9.heap.size := rfl
      refine ⟨w31, hr31, w9.heap.size, B, m, c, ys, rfl, (x27.undrew.trans e30).trans' x31 (fun b hb => .inr (by simp at hb; omega)), by simpa using b31, (own.ext x31 (fun b hb => by have := gb b hb; simp; omega)).cells, own.len, rel.nums ok hr hm, Nat.le_refl _, fun b hb => by have := gb b hb; have := x31.size; omega⟩
  rintro _ _ w34 ⟨bx, B, m, c, nums, rfl, e34, bb34, cl34, hml, hnums, hbx, hBlt⟩ w35 h35
  obtain ⟨b35, x35, z35⟩ := box_new (cs := [.int .i64 0]) h35
  obtain ⟨w36, hr36, b36, x36⟩ := store1 (P := Tryz.prog) (v := .int .i64 0) i3s' b35 (i := 0) (by simp) rfl rfl
  have z34 := e34.size
  have z36 := x36.size
  have e36 : Ext [] w34 w36 := x35.trans' x36 (fun b hb => .inr (by simp at hb; omega))
  have E36 := e34.trans e36
  have b36 : BlkT w36 w34.heap.size [.int .i64 0] 3 := by simpa using b36
  refine ⟨w36, hr36, fun w' => Ext [] w36 w', (Ext.refl _ _).drew, _, fun w' e => (bW.ext0 (E36.trans e)).cell (i := 0) rfl, _, fun w' e => (bI.ext0 (E36.trans e)).cell (i := 0) rfl, ptr_in (when_dec ⟨by omega, by omega⟩ ⟨_, fun w' e => w_ptr (h9w.ext0 (E36.trans e)).blk hi, _, fun w' e => (bK.ext0 (E36.trans e)).cell (i := 0) rfl, ?_⟩)⟩
  refine Rows_c (w := w36.drew) ((G9.ext0 E36).ext0 (Ext.refl _ _).drew) key fun b0 RA rc rs w46 e46 K46 f46 tl => ⟨_, _, _, rfl, e46.undrew, V.when_intro (by kernel_rfl) fun Rc l w49 hl h49 hy => ?_⟩
  have e46 : Ext [] w36 w46 := e46.undrew
  have f46 : ∀ b ∈ rowsF b0 RA rs, w36.heap.size ≤ b ∧ b < w46.heap.size := f46
  obtain ⟨l0, m0, x49, z49⟩ := enter_new hl h49
  have z46 := e46.size
  have e3649 := e46.trans x49
  have E49 := E36.trans e3649
  have K49 := K46.ext0 x49
  have c49 := b36.ext0 e3649
  have lx := bb34.lt
  have l9 := b9.lt
  have htn : rs.map (·.n) = nums := by rw [hnums]; exact tell_n tl
  have hrl : rs.length = m := by rw [← hml, ← htn, List.length_map]
  have few := G9.r.rows G9.few key
  have hml2 : m ≤ 8000000000000 := by
    rw [← hml, hnums, List.length_map]; exact few
  have nF : ∀ {b : Nat}, b ≠ w34.heap.size → b ≠ l → b ∉ [w34.heap.size, l] := fun h1 h2 => by simp; exact ⟨h1, h2⟩
  have inF : ∀ b ∈ [w34.heap.size, l], w9.heap.size ≤ b := fun b hb => by simp at hb; rcases hb with rfl | rfl <;> omega
  have toE : ∀ w', Ext [w34.heap.size, l] w49 w' → Ext [] w9 w' := fun w' e => E49.trans' e (fun b hb => .inr (inF b hb))
  have e3449 := e36.trans e3649
  have bb49 := bb34.ext0 e3449
  have cl49 := cl34.ext0 e3449
  -- the list of numbers stays
  have lst : ∀ w', Ext [w34.heap.size, l] w49 w' → BlkT w' bx [.slice B m c] 23 := fun w' e => bb49.ext e (nF (by omega) (by omega))
  have atN : ∀ (a : Nat) (y : Rw), rs[a]? = some y → nums[a]? = some y.n := fun a y hy => by rw [← htn, List.getElem?_map, hy]; rfl
  have rd : ∀ w', Ext [w34.heap.size, l] w49 w' → ∀ (a : Nat) (z : Int), nums[a]? = some z → ∃ ad, B = some ad ∧ w'.cell? (Addr.add ad (Int.toNat (a : Int) * 1)) = some (.int .i64 z) := fun w' e a z hz => by
    exact il_cell (cl49.ext e (fun b hb => by have := hBlt b hb; exact nF (by omega) (by omega))) hz
  refine (Rows_iter (b0 := b0) (A := RA) (c := rc) (rs := rs) (by omega)).range (I := fun ps w' => Ext [w34.heap.size, l] w49 w' ∧ BlkT w' w34.heap.size [.int .i64 (ps.length : Int)] 3 ∧ (ps.length : Int) < n) (Q := fun p w' => p = .exit 0 ∧ Ext [w34.heap.size, l] w49 w' ∧ BlkT w' w34.heap.size [.int .i64 n] 3 ∧ n ≤ m)
    (fun nn p W' R' g1 g2 => hy nn p W' R' g1 g2) l0 ⟨Ext.refl _ _, c49, by simpa using hpos⟩ ?_ ?_ ?_ ?_ ?_ ?_
  · rintro ps w1 w2 e ⟨g1, g2, g3⟩
    exact ⟨g1.trans' e (fun b hb => .inl (by simp at hb; simp [hb])), g2.ext e (by simp; omega), g3⟩
  · rintro p w1 w2 e ⟨g0, g1, g2, g3⟩
    exact ⟨g0, g1.trans' e (fun b hb => .inl (by simp at hb; simp [hb])), g2.ext e (by simp; omega), g3⟩
  · rintro ps w1 ⟨g1, _, _⟩
    refine K49.ext g1 fun b hb => ?_
    have := f46 b hb
    exact nF (by omega) (by omega)
  · -- a row
    rintro ps y rest w1 Wy p bw R' hsp ⟨g1, g2, g3⟩ hl1 hWy hp hbw sy hS k1 k2
    have hyr : y ∈ rs := by rw [hsp]; simp
    have hya : rs[ps.length]? = some y := by rw [hsp]; simp
    have hps : ps.length < m := by rw [← hrl, hsp]; simp
    have exb := setLoop_ext Wy l Rc .busy none
    have hbusy : LoopSt (setLoop Wy l Rc .busy none) l Rc .busy none := setLoop_st _ _ (LoopSt.lt hS)
    have gW : Ext [w34.heap.size, l] w49 (setLoop Wy l Rc .busy none) := (g1.then hWy).trans' exb (fun b hb => .inl (by simp at hb; simp [hb]))
    have cW := (g2.ext0 hWy).ext exb (by simp; omega)
    have sW := sy.ext exb (by simp; omega) (by simp; omega)
    have zW : (setLoop Wy l Rc .busy none).heap.size = Wy.heap.size := setLoop_size _ _ _ _ _
    have l34 := g2.lt
    generalize setLoop Wy l Rc .busy none = Wb at hbusy gW cW sW zW exb ⊢
    have EW := toE Wb gW
    have cont : ∀ w', Ext [] Wb w' → Ext [w34.heap.size, l] w49 w' := fun w' e => gW.then e
    have W9 := h9w.ext0 EW
    obtain ⟨ad, hB, _⟩ := rd Wb gW ps.length y.n (atN _ _ hya)
    refine ⟨hS, fun w' => Ext [] Wb w', (Ext.refl _ _).drew, _, fun w' e => (cW.ext0 e).cell (i := 0) rfl, ptr_in ⟨_, _, _, fun w' e => (lst w' (cont w' e)).cell (i := 0) rfl, sel_dec (fun hge => by omega) (fun _ => ptr_in ⟨_, _, _, fun w' e => (lst w' (cont w' e)).cell (i := 0) rfl, _, fun w' e => (cW.ext0 e).cell (i := 0) rfl, when_dec ⟨by omega, by omega⟩ ?_⟩)⟩⟩
    rw [hB]
    refine ptr_in ⟨y.n, fun w' e => ?_, sel_false (by simp) ?_⟩
    · obtain ⟨ad', hB', hc'⟩ := rd w' (cont w' e) ps.length y.n (atN _ _ hya)
      rw [hB] at hB'; cases hB'
      exact hc'
    refine ⟨_, fun w' e => (bW.ext0 (EW.trans e)).cell (i := 0) rfl, _, fun w' e => (bI.ext0 (EW.trans e)).cell (i := 0) rfl, ptr_in (when_dec ⟨by omega, by omega⟩ ⟨_, fun w' e => w_size (W9.ext0 e).blk hi, _, fun w' e => (bW.ext0 (EW.trans e)).cell (i := 0) rfl, _, fun w' e => (bI.ext0 (EW.trans e)).cell (i := 0) rfl, ptr_in (when_dec ⟨by omega, by omega⟩ ⟨_, _, _, _, cellsC_S (fun w' e => w_doc (W9.ext0 e).blk hi), _, fun w' e => (bK.ext0 (EW.trans e)).cell (i := 0) rfl, ?_⟩)⟩)⟩
    rw [hd]
    refine DocBetween_c (w := Wb.drew) ((D9.ext0 EW).ext0 (Ext.refl _ _).drew) dl key y.n y.n fun B2 n2 c2 ys w78 e78 own78 hr78 hm78 => ⟨_, _, _, rfl, e78.undrew, ?_⟩
    have e78 : Ext [] Wb w78 := e78.undrew
    have hmi := row_mi rel ok tl hyr sW.ok hr78 hm78
    rw [hN]
    refine isSet_c (sW.ext0 e78) hmi.2 hmi.1 (il_ints own78.cells own78.len) fun w81 e81 => ⟨_, rfl, e78.trans e81, sel_false rfl ?_⟩
    have e8 := e78.trans e81
    have c81 := cW.ext0 e8
    have z81 := e8.size
    obtain ⟨w84, hr84, b84, x84⟩ := store1 (P := Tryz.prog) (v := .int .i64 (IntKind.wrap .i64 ((ps.length : Int) + 1))) i3s' c81 (i := 0) (by simp) rfl rfl
    have b84 : BlkT w84 w34.heap.size [.int .i64 (IntKind.wrap .i64 ((ps.length : Int) + 1))] 3 := by simpa using b84
    rw [up64 ps.length (by omega)] at b84 hr84
    have x8 : Ext [w34.heap.size] Wb w84 := e8.up.trans' x84 (fun b hb => .inl hb)
    have l84 : LoopSt w84 l Rc .busy none := LoopSt.ext hbusy x8 (by simp; omega)
    have g84 : Ext [w34.heap.size, l] w49 w84 := gW.trans' x8 (fun b hb => .inl (by simp at hb; simp [hb]))
    have n84 := (bN.ext0 (EW.trans e8)).ext x84 (by simp; omega)
    have xall : Ext [w34.heap.size, l] Wy w84 := (exb.weaken (G := [w34.heap.size, l]) (fun b hb => .inl (by simp at hb; simp [hb]))).trans' x8 (fun b hb => .inl (by simp at hb; simp [hb]))
    have hG : ∀ b ∈ [w34.heap.size, l], b < w1.heap.size ∨ b = p ∨ b = bw := fun b hb => by
      simp at hb
      rcases hb with rfl | rfl
      · exact .inl l34
      · exact .inl hl1
    refine ⟨_, c81.cell (i := 0) rfl, w84, by rw [up64 ps.length (by omega)]; exact hr84, _, b84.cell (i := 0) rfl, _, n84.cell (i := 0) rfl, sel_dec (fun hge => ⟨l84, k2 _ w84 _ l84 hG xall ⟨rfl, g84, ?_, by omega⟩⟩) (fun hlt => ⟨l84, k1 _ w84 l84 hG xall ⟨g84, by rw [List.length_append]; exact b84, by rw [List.length_append]; simp; omega⟩⟩)⟩
    have : ((ps.length + 1 : Nat) : Int) = n := by omega
    rw [← this]; exact b84
  · rintro w89 hl89 ⟨g1, g2, g3⟩
    have xe := setLoop_ext w89 l Rc .exhausted none
    have gE : Ext [w34.heap.size, l] w49 (setLoop w89 l Rc .exhausted none) := g1.trans' xe (fun b hb => .inl (by simp at hb; simp [hb]))
    have cE := g2.ext xe (by simp; omega)
    refine .inl ⟨hl89, ?_⟩
    generalize setLoop w89 l Rc .exhausted none = We at gE cE ⊢
    have EE := toE We gE
    have zE := gE.size
    refine ⟨_, cE.cell (i := 0) rfl, _, (bN.ext0 EE).cell (i := 0) rfl, ptr_in ⟨_, _, _, (lst We gE).cell (i := 0) rfl, ?_⟩⟩
    obtain ⟨w94, hr94, b94, x94⟩ := store1 (P := Tryz.prog) (v := .bool true) i4s (b9.ext0 EE) (i := 0) (by simp) rfl rfl
    have b94 : BlkT w94 w8.heap.size [.bool true] 4 := by simpa using b94
    have mk := (m0.ext gE (nF (by omega) (by omega))).ext x94 (by simp; omega)
    have ht : ((rs.length : Int) == (if ((m : Nat) : Int) < n then ((m : Nat) : Int) else n)) = true := by
      rw [hrl]; rw [if_pos (by omega)]; simp
    rw [ht]
    refine ⟨w94, hr94, close_one mk fun w95 x95 => ⟨_, (b94.ext x95 (by simp; omega)).cell (i := 0) rfl, k w95 ?_⟩⟩
    exact ((E9.trans EE).trans' x94 (fun b hb => .inr (by simp at hb; omega))).trans' x95 (fun b hb => .inr (by have := E9.size; simp at hb; omega))
  · rintro w89 p hl89 ⟨rfl, g1, g2, g3⟩
    have xe := setLoop_ext w89 l Rc .exhausted (some (Code.exit 0))
    have gE : Ext [w34.heap.size, l] w49 (setLoop w89 l Rc .exhausted (some (Code.exit 0))) := g1.trans' xe (fun b hb => .inl (by simp at hb; simp [hb]))
    have cE := g2.ext xe (by simp; omega)
    refine .inr (.inr (.inl ⟨hl89, ?_⟩))
    generalize setLoop w89 l Rc .exhausted (some (Code.exit 0)) = We at gE cE ⊢
    have EE := toE We gE
    have zE := gE.size
    refine ⟨_, cE.cell (i := 0) rfl, _, (bN.ext0 EE).cell (i := 0) rfl, ptr_in ⟨_, _, _, (lst We gE).cell (i := 0) rfl, ?_⟩⟩
    obtain ⟨w94, hr94, b94, x94⟩ := store1 (P := Tryz.prog) (v := .bool true) i4s (b9.ext0 EE) (i := 0) (by simp) rfl rfl
    have b94 : BlkT w94 w8.heap.size [.bool true] 4 := by simpa using b94
    have mk := (m0.ext gE (nF (by omega) (by omega))).ext x94 (by simp; omega)
    have ht : (n == (if ((m : Nat) : Int) < n then ((m : Nat) : Int) else n)) = true := by
      rw [if_neg (by omega)]; simp
    rw [ht]
    refine ⟨w94, hr94, close_one mk fun w95 x95 => ⟨_, (b94.ext x95 (by simp; omega)).cell (i := 0) rfl, k w95 ?_⟩⟩
    exact ((E9.trans EE).trans' x94 (fun b hb => .inr (by simp at hb; omega))).trans' x95 (fun b hb => .inr (by have := E9.size; simp at hb; omega))
end Go.Proofs.YtjlkdadafddodaaGreatDoor
namespace Go.Proofs.YtjlkdadafddodaaGreatDoor
open Go Go.V Go.B

theorem ints_cells {w : World} {A : Option Addr} {l : Nat} {ns : List Int} (h : Ints w .i64 A l ns) : Cells w A (IL.flat ns) := by
  rw [IL_flat]
  intro j v hv
  have hj : j < ns.length := by have := (List.getElem?_eq_some_iff.1 hv).1; simpa [ints] using this
  rw [ints_get hj] at hv
  cases hv
  exact h.cells j (by have := h.len; omega)
set_option maxRecDepth 8000 in
set_option maxHeartbeats 4000000 in
theorem asks_c {w : World} {base g cap : Nat} {es : Nat → En} (h : WAt w base g cap es) (hcap : cap ≤ 1100000) {i j : Nat} (hi : i < 4) (hj : j < 4) {o : Op} (hin : o.In w) (hol : o.l ≤ 1048576) {R : Ending → World → Prop} (k : ∀ w', Ext [] w w' → R (.returned (.bool true)) w') :
    Calls Tryz.prog 22 #[.pointer (some ⟨g, 0, none⟩), .agg #[.int .i64 o.kind, .int .i64 o.at_, .int .i64 o.to, .string o.key, .int .i64 o.slot, .int .i64 o.n, .int .i64 o.cmp, .slice o.A o.l o.c], .int .i64 (i : Int), .int .i64 (j : Int)] w R := by
  apply berthlaw08_World_asks_nf
  intro w12 h12
  obtain ⟨b12, x12, z12⟩ := box_new (cs := o.cells) h12
  have h12w := h.ext0 x12
  have hen := h.en i hi
  refine ⟨fun w' => Ext [] w12 w', (Ext.refl _ _).drew, ptr_in (when_dec ⟨by omega, by omega⟩ ⟨_, fun w' e => w_ptr (h12w.ext0 e).blk hi, ptr_in (when_dec ⟨by omega, by omega⟩ ⟨_, _, _, _, cellsC_S (fun w' e => w_doc (h12w.ext0 e).blk hi), fun w20 h20 => ?_⟩)⟩)⟩
  obtain ⟨b20, x20, z20⟩ := doc_box (d := ⟨0, none, 0, 0, []⟩) h20
  obtain ⟨w21, hr21, b21, x21⟩ := doc_store b20 rfl (es i).d
  have hs12 : (World.drew w12).heap.size = w12.heap.size := rfl
  have e21 : Ext [] w12 w21 := x20.undrew.trans' x21 (fun b hb => .inr (by simp at hb; omega))
  have E21 : Ext [] w w21 := x12.trans e21
  refine ⟨x20.undrew, w21, hr21, ?_⟩
  obtain ⟨x, hx⟩ : ∃ x, (es i).x = x := ⟨_, rfl⟩
  obtain ⟨d, hd⟩ : ∃ d, (es i).d = d := ⟨_, rfl⟩
  obtain ⟨q, hq⟩ : ∃ q, (es i).q = q := ⟨_, rfl⟩
  have rel : Rel x d.rows := by rw [← hx, ← hd]; exact hen.rel
  have ok : IxOk x := by rw [← hx]; exact hen.ok
  have B21 : IxB w21 q x := by rw [← hx, ← hq]; exact (hen.ext0 E21).b (by omega)
  have D21 : DocR w21 d := by rw [← hd]; exact hen.doc.ext0 E21
  have dl : d.l ≤ 1100000 := by rw [← hd]; have := hen.dl; omega
  have hN : d.N = (x.N : Int) := by rw [← hd, ← hx]; exact hen.N
  have W21 := h.ext0 E21
  have ob21 := b12.ext0 e21
  rw [hd] at b21
  rw [hq]
  have ob : ∀ w', Ext [] w21 w' → BlkT w' w.heap.size o.cells 29 := fun w' e => ob21.ext0 e
  have db : ∀ w', Ext [] w21 w' → BlkT w' (World.drew w12).heap.size d.cells 36 := fun w' e => b21.ext0 e
  have d21 : Ext [] w21 w21.drew := (Ext.refl _ _).drew
  have k21 : ∀ w', Ext [] w21 w' → R (.returned (.bool true)) w' := fun w' e => k w' (E21.trans e)
  -- an answer that is a set
  have fin : ∀ (p bw : Nat) (S : SetV) (φ : Nat → Prop) (Q : Int → Prop) (w51 w54 : World) (B : Option Addr) (m c : Nat) (ys : List Int), Ext [] w21 w51 → Holds w51 p bw x.N S φ → Ext [] w51 w54 → Ints w54 .i64 B m ys → RiseL ys → (∀ z, z ∈ ys ↔ ∃ r ∈ d.rows, (r.key = o.key ∧ Q r.n) ∧ r.slot = z) → (∀ i, φ i ↔ ∃ a, x.val o.key (i : Int) = some a ∧ Q a) →
      Calls Tryz.prog 9 #[.pointer (some ⟨g, 0, none⟩), .int .i64 (i : Int), .pointer (some ⟨p, 0, none⟩), .slice B m c] w54 fun e56 w57 => ∃ b55, e56 = .returned (.bool b55) ∧ Ext [] w21 w57 ∧ R (.returned (.bool b55)) w57 := fun p bw S φ Q w51 w54 B m c ys e51 hS e54 hints hr hm hφ => by
    have E54 := e51.trans e54
    refine set_c (W21.ext0 E54) hi (hS.set.ext0 e54) (by rw [hS.size, hx]) (rel.mi ok (Q := Q) hS.set.ok hS.mem hφ hr hm) hints fun w57 e57 => ⟨_, rfl, E54.trans e57, k21 w57 (E54.trans e57)⟩
  refine ⟨_, cadd ob21 rfl, sel_intro (fun h4 => ?_) (fun h4 => sel_intro (fun h5 => ?_) (fun h5 => sel_intro (fun h6 => ?_) (fun h6 => sel_intro (fun h7 => ?_) (fun h7 => sel_intro (fun h8 => ?_) (fun h8 => sel_intro (fun h9 => ?_) (fun h9 => sel_intro (fun h10 => ?_) (fun h10 => sel_intro (fun h11 => ?_) (fun h11 => k21 w21 (Ext.refl _ _)))))))))⟩
  · -- Get
    refine ⟨_, cadd ob21 rfl, _, cadd ob21 rfl, Get_c B21.g.r o.key o.slot fun w28 e28 => ⟨_, _, rfl, _, _, _, _, cadd0 (db w28 e28), _, cadd (ob w28 e28) rfl, _, cadd (ob w28 e28) rfl, DocAt_c (D21.ext0 e28) (by omega) o.key o.slot fun a w35 e35 hat => ⟨_, rfl, ?_⟩⟩⟩
    have E35 := e28.trans e35
    rcases hat with ⟨rfl, hno⟩ | ⟨a', r, rfl, hr, q1, q2⟩
    · rw [(rel.none_iff o.key o.slot).1 hno]
      exact sel_true (by decide) (sel_true rfl (k21 w35 E35))
    · rw [(rel.tell o.key o.slot r.n).2 ⟨r, List.mem_of_getElem? hr, q1, q2, rfl⟩]
      have ha : a' < d.l := by have := (List.getElem?_eq_some_iff.1 hr).1; have := D21.len; omega
      obtain ⟨r', ad, hr', hA, rd⟩ := doc_row (D21.ext0 E35) ha
      rw [hr] at hr'; cases hr'
      refine sel_false (by simp) (sel_true rfl ⟨_, _, _, cadd (db w35 E35) rfl, when_dec ⟨by omega, by omega⟩ ?_⟩)
      rw [hA]
      refine ptr_in ⟨_, rd 2 _ rfl, ?_⟩
      show R (.returned (.bool (r.n == r.n))) w35
      rw [beq_self_eq_true]
      exact k21 w35 E35
  · -- Find
    refine ⟨fun w' => Ext [] w21 w', d21, _, fun w' e => cadd (ob w' e) rfl, _, fun w' e => cadd (ob w' e) rfl, _, fun w' e => cadd (ob w' e) rfl, _, _, _, _, cellsC_S (fun w' e => cadd0 (db w' e)), _, fun w' e => cadd (ob w' e) rfl, _, fun w' e => cadd (ob w' e) rfl, _, fun w' e => cadd (ob w' e) rfl, ?_⟩
    refine Find_c' (B21.ext0 d21).g o.key o.cmp o.n hin.n0 hin.n1 fun p bw w51 S e51 hp hb hS => ⟨_, rfl, d21.trans e51, DocFind_c (D21.ext0 (d21.trans e51)) (by omega) o.key o.cmp o.n fun B m c ys w54 e54 own hr hm => ⟨_, _, _, rfl, d21.trans (e51.trans e54), ?_⟩⟩
    exact fin p bw S _ (fun a => standsP o.cmp a o.n) w51 w54 B m c ys (d21.trans e51) hS e54 (il_ints own.cells own.len) hr hm (fun i => Iff.rfl)
  · -- Between
    refine ⟨fun w' => Ext [] w21 w', d21, _, fun w' e => cadd (ob w' e) rfl, _, fun w' e => cadd (ob w' e) rfl, _, fun w' e => cadd (ob w' e) rfl, _, _, _, _, cellsC_S (fun w' e => cadd0 (db w' e)), _, fun w' e => cadd (ob w' e) rfl, _, fun w' e => cadd (ob w' e) rfl, _, fun w' e => cadd (ob w' e) rfl, ?_⟩
    refine Between_c (B21.ext0 d21).g o.key o.n o.slot fun p bw w51 S e51 hp hb hS => ⟨_, rfl, d21.trans e51, DocBetween_c (D21.ext0 (d21.trans e51)) (by omega) o.key o.n o.slot fun B m c ys w54 e54 own hr hm => ⟨_, _, _, rfl, d21.trans (e51.trans e54), ?_⟩⟩
    exact fin p bw S _ (fun a => o.n ≤ a ∧ a ≤ o.slot) w51 w54 B m c ys (d21.trans e51) hS e54 (il_ints own.cells own.len) hr hm (fun i => Iff.rfl)
  · -- Among
    have hn21 : Ints w21 .i64 o.A o.l o.ns := hin.ns.ext0 E21
    have hmul : d.l * o.l ≤ 4000000000000 := Nat.le_trans (Nat.mul_le_mul dl hol) (by omega)
    refine ⟨_, _, _, _, cadd0 b21, _, cadd ob21 rfl, _, _, _, cadd ob21 rfl, DocAmong_c D21 hn21 hmul (by omega) (by omega) o.key fun B m c ys w83 e83 own hr hm => ⟨_, _, _, rfl, fun w' => Ext [] w21 w', e83.drew, _, fun w' e => cadd (ob w' e) rfl, _, _, _, fun w' e => cadd (ob w' e) rfl, fun w88 h88 => ⟨?_, ?_⟩⟩⟩
    · subst h88; exact e83.drew.alloc _
    obtain ⟨A90, c90, w90, hr90, own90, e90⟩ := copyL (L := IL) (P := Tryz.prog) (ty := 23) (t := 23) (e := 3) (w := w83.drew) u37 i3 rfl (by omega) (ints_cells (hn21.ext0 e83.drew)) hn21.len h88 (by omega) o.c
    have E90 := e83.drew.trans e90
    refine ⟨_, _, _, w90, hr90, E90, Among_c' (B21.ext0 E90).g o.key (il_ints own90.cells own90.len) (fun ad e => (own90.base ad.block (by rw [e]; simp [ownF])).2) (by omega) fun p bw w93 S e93 hp hb hS => ⟨_, rfl, E90.trans e93, ?_⟩⟩
    exact fin p bw S _ (fun a => a ∈ o.ns) w93 w93 B m c ys (E90.trans e93) hS (Ext.refl _ _) ((il_ints own.cells own.len).ext0 ((Ext.refl _ _).drew.trans (e90.trans e93))) hr hm (fun i => Iff.rfl)
  · -- Has
    refine ⟨fun w' => Ext [] w21 w', d21, _, fun w' e => cadd (ob w' e) rfl, _, _, _, _, cellsC_S (fun w' e => cadd0 (db w' e)), _, fun w' e => cadd (ob w' e) rfl, ?_⟩
    refine Has_c' (B21.ext0 d21).g o.key fun p bw w51 S e51 hp hb hS => ⟨_, rfl, d21.trans e51, DocHas_c (D21.ext0 (d21.trans e51)) (by omega) o.key fun B m c ys w54 e54 own hr hm => ⟨_, _, _, rfl, d21.trans (e51.trans e54), ?_⟩⟩
    exact fin p bw S _ (fun _ => True) w51 w54 B m c ys (d21.trans e51) hS e54 (il_ints own.cells own.len) hr hm (fun i => by unfold hasP; simp)
  · -- Keys
    refine ⟨fun w' => Ext [] w21 w', d21, _, _, _, _, cellsC_S (fun w' e => cadd0 (db w' e)), ?_⟩
    refine KeysB_c (B21.ext0 d21) fun A n c xs w51 e51 own hk hn => ⟨_, _, _, rfl, d21.trans e51, DocKeys_c (D21.ext0 (d21.trans e51)) (by omega) fun B m c' ys w54 e54 own' hs hm => ⟨_, _, _, rfl, d21.trans (e51.trans e54), ?_⟩⟩
    refine textsAre_c (own.cells.ext0 e54) own.len own'.cells own'.len (by omega) (rel.keys ok hk hs hm) fun w57 e57 => ⟨_, rfl, (d21.trans (e51.trans e54)).trans e57, k21 w57 ((d21.trans (e51.trans e54)).trans e57)⟩
  · -- Rows
    exact ⟨_, cadd ob21 rfl, _, cadd ob21 rfl, rows_c W21 (by omega) hi o.key o.slot fun w29 e29 => ⟨_, rfl, k21 w29 e29⟩⟩
  · -- Same
    have hen' := h.en j hj
    refine ⟨fun w' => Ext [] w21 w', d21, ptr_in (when_dec ⟨by omega, by omega⟩ ⟨_, fun w' e => w_ptr (W21.ext0 e).blk hj, _, _, _, _, cellsC_S (fun w' e => cadd0 (db w' e)), ptr_in (when_dec ⟨by omega, by omega⟩ ⟨_, _, _, _, cellsC_S (fun w' e => w_doc (W21.ext0 e).blk hj), ?_⟩)⟩)⟩
    refine SameB_c (B21.ext0 d21) ((hen'.ext0 (E21.trans d21)).b (by omega)) fun t w41 ht e41 => ⟨_, rfl, d21.trans e41, DocSame_c (D21.ext0 (d21.trans e41)) (hen'.doc.ext0 (E21.trans (d21.trans e41))) (by omega) (by have := hen'.dl; omega) hen'.rel.uniq fun t' w44 e44 ht' => ⟨_, rfl, d21.trans (e41.trans e44), ?_⟩⟩
    have : t = t' := by
      rw [Bool.eq_iff_iff, ht, ht']
      exact Rel.same rel hen'.rel
    rw [this, beq_self_eq_true]
    exact k21 w44 (d21.trans (e41.trans e44))
end Go.Proofs.YtjlkdadafddodaaGreatDoor
namespace Go.Proofs.YtjlkdadafddodaaGreatDoor
open Go Go.V Go.B

theorem and3 (x : Int) : ∃ i : Nat, i < 4 ∧ IntKind.wrap .i64 ((BitVec.toNat (BitVec.ofInt 64 x &&& BitVec.ofInt 64 3) : Nat) : Int) = (i : Int) := by
  have h : BitVec.toNat (BitVec.ofInt 64 x &&& BitVec.ofInt 64 3) ≤ 3 := by
    rw [BitVec.toNat_and]
    exact Nat.and_le_right
  exact ⟨_, by omega, w64 (by omega) (by omega)⟩
theorem i106s : (Tryz.prog.info? 63).map (·.size) = some 3 := by kernel_rfl
set_option maxRecDepth 8000 in
set_option maxHeartbeats 4000000 in
theorem seen_c {w : World} {base g cap : Nat} {es : Nat → En} (h : WAt w base g cap es) (hcap : cap ≤ 3500000000000) {i : Nat} (hi : i < 4) {R : Ending → World → Prop} (k : ∀ w', Ext [] w w' → R (.returned (.bool true)) w') :
    Calls Tryz.prog 13 #[.pointer (some ⟨g, 0, none⟩), .int .i64 (i : Int)] w R := by
  apply berthlaw08_World_seen_nf
  have hen := h.en i hi
  obtain ⟨x, hx⟩ : ∃ x, (es i).x = x := ⟨_, rfl⟩
  obtain ⟨d, hd⟩ : ∃ d, (es i).d = d := ⟨_, rfl⟩
  obtain ⟨q, hq⟩ : ∃ q, (es i).q = q := ⟨_, rfl⟩
  have rel : Rel x d.rows := by rw [← hx, ← hd]; exact hen.rel
  have ok : IxOk x := by rw [← hx]; exact hen.ok
  have Bw : IxB w q x := by rw [← hx, ← hq]; exact hen.b (by omega)
  have Dw : DocR w d := by rw [← hd]; exact hen.doc
  have dl : d.l ≤ 3500000000000 := by rw [← hd]; have := hen.dl; omega
  have hN : d.N = (x.N : Int) := by rw [← hd, ← hx]; exact hen.N
  refine ⟨fun w' => Ext [] w w', (Ext.refl _ _).drew, ptr_in (when_dec ⟨by omega, by omega⟩ ⟨_, fun w' e => w_ptr (h.ext0 e).blk hi, ptr_in (when_dec ⟨by omega, by omega⟩ ⟨_, _, _, _, cellsC_S (fun w' e => w_doc (h.ext0 e).blk hi), fun w10 h10 => ?_⟩)⟩)⟩
  obtain ⟨b10, x10, z10⟩ := doc_box (d := ⟨0, none, 0, 0, []⟩) h10
  obtain ⟨w11, hr11, b11, x11⟩ := doc_store b10 rfl (es i).d
  rw [hd] at b11
  rw [hq]
  have E11 : Ext [] w w11 := x10.undrew.trans' x11 (fun b hb => .inr (by simp at hb; have : (World.drew w).heap.size = w.heap.size := rfl; omega))
  have d11 : Ext [] w11 w11.drew := (Ext.refl _ _).drew
  have D11 := Dw.ext0 E11
  have B11 := Bw.ext0 E11
  have W11 := h.ext0 E11
  have db : ∀ w', Ext [] w11 w' → BlkT w' (World.drew w).heap.size d.cells 36 := fun w' e => b11.ext0 e
  refine ⟨x10.undrew, w11, hr11, fun w' => Ext [] w11 w', d11, _, _, _, _, cellsC_S (fun w' e => cadd0 (db w' e)), ?_⟩
  refine KeysB_c (B11.ext0 d11) fun A n c xs w18 e18 own hk hn => ⟨_, _, _, rfl, d11.trans e18, DocKeys_c (D11.ext0 (d11.trans e18)) (by omega) fun B m c' ys w21 e21 own' hs hm => ⟨_, _, _, rfl, d11.trans (e18.trans e21), ?_⟩⟩
  refine textsAre_c (own.cells.ext0 e21) own.len own'.cells own'.len (by omega) (rel.keys ok hk hs hm) fun w24 e24 => ⟨_, rfl, d11.trans ((e18.trans e21).trans e24), sel_false rfl ?_⟩
  have E24 := d11.trans ((e18.trans e21).trans e24)
  refine ⟨_, _, _, cadd (db w24 E24) rfl, fun t w' => ∃ a : Nat, t = a ∧ a ≤ d.l ∧ Ext [] w11 w', fun t _ => d.l - t.toNat, ⟨0, rfl, by omega, E24⟩, ?_⟩
  rintro _ _ w30 ⟨a, rfl, ha, E30⟩
  refine sel_dec (fun hlt => ?_) (fun hge => ?_)
  · have hlt : a < d.l := by omega
    obtain ⟨r, ad, hr, hA, rd⟩ := doc_row (D11.ext0 E30) hlt
    refine when_dec ⟨by omega, by omega⟩ ?_
    rw [hA]
    refine ptr_in ⟨_, _, _, rd, fun w35 h35 => ?_⟩
    obtain ⟨b35, x35, z35⟩ := box_new (cs := [.string ByteArray.empty, .int .i64 0, .int .i64 0]) h35
    obtain ⟨w36, hr36, b36, x36⟩ := storeW (P := Tryz.prog) (t := 63) (n := 3) (vs := r.cells) i106s b35 rfl rfl (DL.one r)
    have E36 := E30.trans (x35.trans' x36 (fun b hb => .inr (by simp at hb; omega)))
    refine ⟨w36, hr36, _, cadd b36 rfl, _, cadd b36 rfl, Get_c (B11.ext0 E36).g.r r.key r.slot fun w42 e42 => ⟨_, _, rfl, ?_⟩⟩
    rw [(rel.tell r.key r.slot r.n).2 ⟨r, List.mem_of_getElem? hr, rfl, rfl, rfl⟩]
    refine sel_false rfl ⟨_, cadd (b36.ext0 e42) rfl, sel_false (by simp) ?_⟩
    rw [up64 a (by omega)]
    exact ⟨⟨a + 1, rfl, by omega, E36.trans e42⟩, by simp only [Int.toNat_natCast]; omega⟩
  refine ⟨_, _, _, _, cadd0 (db w30 E30), DocKeys_c (D11.ext0 E30) (by omega) fun B2 m2 c2 ys2 w48 e48 own2 hs2 hm2 => ⟨_, _, _, rfl, ?_⟩⟩
  have hl2 := own2.len
  refine ⟨fun t w' => ∃ a : Nat, t = a ∧ a ≤ m2 ∧ Ext [] w48 w', fun t _ => m2 - t.toNat, ⟨0, rfl, by omega, Ext.refl _ _⟩, ?_⟩
  rintro _ _ w53 ⟨a, rfl, ha, e53⟩
  have E53 := E30.trans (e48.trans e53)
  refine sel_dec (fun hlt => ?_) (fun hge => k w53 (E11.trans E53))
  have hlt : a < m2 := by omega
  obtain ⟨key, hkey⟩ : ∃ key, ys2[a]? = some key := ⟨ys2[a]'(by omega), List.getElem?_eq_getElem (by omega)⟩
  obtain ⟨ad, hA, hc⟩ := sl_cell (own2.cells.ext0 e53) hkey
  rw [hA]
  have d53 : Ext [] w53 w53.drew := (Ext.refl _ _).drew
  have hm2b : m2 ≤ 8000000000000 ∨ True := .inr trivial
  refine when_dec ⟨by omega, by omega⟩ (ptr_in ⟨_, hc, fun w' => Ext [] w53 w', d53, _, _, _, _, cellsC_S (fun w' e => cadd0 (db w' (E53.trans e))), ?_⟩)
  refine Has_c' (B11.ext0 (E53.trans d53)).g key fun p bw w62 S e62 hp hb hS => ⟨_, rfl, d53.trans e62, DocHas_c (D11.ext0 (E53.trans (d53.trans e62))) (by omega) key fun B3 m3 c3 ys3 w65 e65 own3 hr3 hm3 => ⟨_, _, _, rfl, d53.trans (e62.trans e65), ?_⟩⟩
  have E65 := E53.trans (d53.trans (e62.trans e65))
  refine set_c (W11.ext0 E65) hi (hS.set.ext0 e65) (by rw [hS.size, hx]) (rel.mi ok (Q := fun _ => True) hS.set.ok hS.mem (fun i => by unfold hasP; simp) hr3 hm3) (il_ints own3.cells own3.len) fun w68 e68 => ⟨_, rfl, d53.trans ((e62.trans e65).trans e68), sel_false rfl ⟨_, _, _, fun w' e => cadd (db w' (E53.trans e)) rfl, ?_⟩⟩
  refine rows_c (W11.ext0 (E65.trans e68)) hcap hi key _ fun w72 e72 => ⟨_, rfl, d53.trans (((e62.trans e65).trans e68).trans e72), sel_false rfl ?_⟩
  have hm2s : m2 < 4611686018427387904 := by
    -- the keys are no more than the rows
    have hsub := sub_len (l := ys2) (m := d.rows.map (·.key)) (hs2.imp (fun h e => by subst e; exact lt_irr _ h)) fun z hz => by
      obtain ⟨r, hr, e⟩ := (hm2 z).1 hz
      exact List.mem_map.2 ⟨r, hr, e⟩
    have := Dw.len
    simp at hsub; omega
  rw [up64 a (by omega)]
  exact ⟨⟨a + 1, rfl, by omega, e53.trans (d53.trans (((e62.trans e65).trans e68).trans e72))⟩, by simp only [Int.toNat_natCast]; omega⟩
def nilE : En := ⟨none, nilX, [], ⟨0, none, 0, 0, []⟩⟩
theorem nilE_at (w : World) (cap : Nat) : EnAt w cap nilE := ⟨fun _ => ⟨rfl, rfl, fun _ => rfl, rfl⟩, fun h => absurd rfl h, nilX_ok, fun k i n h => (by cases h), ⟨Cells.nil _ _, rfl⟩, rfl, Rel.nil (fun k i => rfl), Nat.zero_le _, fun b hb => (by cases hb)⟩
def szOf (a : Nat) : Nat := if a = 0 then 8 else if a = 1 then 70 else 200
set_option maxRecDepth 8000 in
theorem Begin_c {w : World} {R : Ending → World → Prop}
    (k : ∀ g es w', Ext [] w w' → WAt w' w.heap.size g 0 es → (∀ j, j < 3 → (es j).q ≠ none ∧ (es j).x.N = szOf j) → (∀ j, j < 4 → (es j).d.A = none) → R (.returned (.tuple #[.pointer (some ⟨g, 0, none⟩), .bool true])) w') :
    Calls Tryz.prog 5 #[] w R := by
  apply berthlaw08_Begin_nf
  intro w1 h1 w2 h2
  obtain ⟨b1, x1, z1⟩ := box_new (cs := wsCells fun _ => nilE) h1
  obtain ⟨b2, x2, z2⟩ := box_new (cs := [.int .i64 8, .int .i64 70, .int .i64 200]) h2
  have W1 : WAt w2 w.heap.size w.heap.size 0 fun _ => nilE := ⟨b1.ext0 x2, fun i hi => nilE_at _ _, fun i j _ _ _ b hb => (by cases hb), fun i j _ _ b hb => (by cases hb), fun i _ => (by simp [nilE]), fun i _ => (by simp [nilE, ownF]), fun i _ b hb => (by cases hb), Nat.le_refl _⟩
  refine ⟨fun t w' => ∃ (a : Nat) (es : Nat → En), t = a ∧ a ≤ 3 ∧ Ext [] w w' ∧ WAt w' w.heap.size w.heap.size 0 es ∧ BlkT w' w1.heap.size [.int .i64 8, .int .i64 70, .int .i64 200] 3 ∧ (∀ j, j < a → (es j).q ≠ none ∧ (es j).x.N = szOf j) ∧ (∀ j, j < 4 → (es j).d.A = none) ∧ (∀ j, j < 4 → w1.heap.size ∉ (es j).F), fun t _ => 3 - t.toNat, ⟨0, _, rfl, by omega, x1.trans x2, W1, b2, by simp, fun _ _ => rfl, fun _ _ => (by simp [nilE])⟩, ?_⟩
  rintro _ _ w7 ⟨a, es, rfl, ha, E7, W7, b7, hes, hF, hsz⟩
  refine sel_dec (fun hlt => ?_) (fun hge => ?_)
  · have hlt : a < 3 := by omega
    have hc : ([.int .i64 8, .int .i64 70, .int .i64 200] : List Value)[a]? = some (.int .i64 (szOf a : Int)) := by
      rcases (by omega : a = 0 ∨ a = 1 ∨ a = 2) with rfl | rfl | rfl <;> rfl
    have hs : szOf a ≤ 65536 := by
      unfold szOf
      split
      · omega
      · split <;> omega
    refine when_dec ⟨by omega, by omega⟩ ⟨(szOf a : Int), by rw [Int.toNat_natCast, Nat.mul_one]; exact cadd b7 hc, ?_⟩
    refine NewIx_c hs fun w12 F x e12 a12 k12 N12 v12 f12 => ⟨_, _, rfl, sel_false rfl (sel_false rfl (when_dec ⟨by omega, by omega⟩ ?_))⟩
    obtain ⟨w13, hr13, b13, x13⟩ := w_storeQ (W7.blk.ext0 e12) (i := a) (by omega) (some ⟨x.q, 0, none⟩)
    refine ⟨w13, hr13, fun _ => True, trivial, NewDoc_ok (w := w13.drew) hs fun w20 e20 => ⟨_, _, _, _, _, rfl, trivial, when_dec ⟨by omega, by omega⟩ ?_⟩⟩
    have e20 : Ext [] w13 w20 := e20.undrew
    obtain ⟨w21, hr21, b21, x21⟩ := w_storeD (b13.ext0 e20) (i := a) (by omega) ⟨(szOf a : Int), none, 0, 0, []⟩
    have x3 : Ext [w.heap.size] w12 w21 := (x13.then e20).trans' x21 (fun b hb => .inl hb)
    have E21 : Ext [] w w21 := (E7.trans e12).trans' x3 (fun b hb => .inr (by simp at hb; omega))
    have hg := W7.blk.lt
    have z7 := E7.size
    refine ⟨w21, hr21, trivial, ?_⟩
    rw [up64 a (by omega)]
    refine ⟨⟨a + 1, upd es a ⟨some ⟨x.q, 0, none⟩, x, F, ⟨(szOf a : Int), none, 0, 0, []⟩⟩, rfl, by omega, E21, ?_, ?_, fun j hj => ?_, fun j hj => ?_, fun j hj => ?_⟩, by simp only [Int.toNat_natCast]; omega⟩
    · refine WAt.upd W7 (i := a) (by omega) (e' := ⟨some ⟨x.q, 0, none⟩, x, F, ⟨(szOf a : Int), none, 0, 0, []⟩⟩) e12.up (fun b hb => .inr (f12 b hb)) a12.lt (Ext.refl _ _) ⟨fun hn => (by cases hn), fun _ => ⟨rfl, a12.cnt (by omega)⟩, k12, fun k' j m hv => (by rw [v12] at hv; cases hv), ⟨Cells.nil _ _, rfl⟩, ?_, Rel.nil v12, Nat.zero_le _, fun b hb => (by cases hb)⟩ (fun b hb => (by cases hb)) (by omega) x3 ?_ (fun j hj => rfl) (by omega)
      · show (szOf a : Int) = (x.N : Int)
        rw [N12]
      · refine (congrArg (fun cs => BlkT w21 w.heap.size cs 39) (wsCells_congr fun j hj => ?_)).mp b21
        unfold upd
        by_cases e : j = a
        · subst e; simp
        · simp [e]
    · exact (b7.ext0 e12).ext x3 (by simp; omega)
    · by_cases e : j = a
      · subst e; rw [upd_same]; exact ⟨by simp, N12⟩
      · rw [upd_other es _ e]; exact hes j (by omega)
    · by_cases e : j = a
      · subst e; rw [upd_same]
      · rw [upd_other es _ e]; exact hF j hj
    · by_cases e : j = a
      · subst e; rw [upd_same]
        intro hm
        have := f12 _ hm
        have := b7.lt
        omega
      · rw [upd_other es _ e]; exact hsz j hj
  · have : a = 3 := by omega
    subst this
    exact k w.heap.size es w7 E7 W7 hes hF
/-- A step. -/
theorem Step_c {W0 w : World} {g cap : Nat} {es : Nat → En} (e0 : Ext [] W0 w) (h : WAt w W0.heap.size g cap es) (hcap : cap ≤ 1100000) {o : Op} (hin : o.In w) (hol : o.l ≤ 1048576) {R : Ending → World → Prop}
    (k : ∀ es' w', Ext [] W0 w' → WAt w' W0.heap.size g (cap + 1) es' → R (.returned (.bool true)) w') :
    Calls Tryz.prog 6 #[.pointer (some ⟨g, 0, none⟩), .agg #[.int .i64 o.kind, .int .i64 o.at_, .int .i64 o.to, .string o.key, .int .i64 o.slot, .int .i64 o.n, .int .i64 o.cmp, .slice o.A o.l o.c]] w R := by
  apply berthlaw08_World_Step_nf
  intro w10 h10
  obtain ⟨b10, x10, z10⟩ := box_new (cs := o.cells) h10
  have W10 := h.ext0 x10
  have E10 := e0.trans x10
  obtain ⟨i, hi, ei⟩ := and3 o.at_
  obtain ⟨j, hj, ej⟩ := and3 o.to
  refine ⟨_, cadd b10 rfl, sel_dec (fun hle => ⟨_, _, _, _, _, _, _, _, _, _, cadd0 b10, _, cadd b10 rfl, ?_⟩) (fun hgt => ⟨_, _, _, _, _, _, _, _, _, _, cadd0 b10, _, cadd b10 rfl, _, cadd b10 rfl, ?_⟩)⟩
  · rw [ei]
    refine changes_c W10 (by omega) (by have := E10.size; exact this) hi (hin.ext0 x10) fun es' w' ch _ => ⟨_, rfl, k es' w' ?_ ch.at_⟩
    refine E10.trans' ch.ext (fun b hb => .inr ?_)
    rcases List.mem_cons.1 hb with rfl | hb
    · exact h.gb
    · exact h.low i hi b hb
  · rw [ei, ej]
    exact asks_c W10 hcap hi hj (hin.ext0 x10) hol fun w' e => ⟨_, rfl, k es w' (E10.trans e) ((W10.ext0 e).more (by omega))⟩
end Go.Proofs.YtjlkdadafddodaaGreatDoor
