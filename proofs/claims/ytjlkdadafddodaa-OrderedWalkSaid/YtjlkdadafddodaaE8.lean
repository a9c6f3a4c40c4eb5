/- The world of four: the queries. -/
import Derived.Test.YtjlkdadafddodaaE7
set_option linter.unusedVariables false
set_option linter.unusedSimpArgs false
namespace Go.Proofs.Ytjlkdadafddodaa
open Go Go.V Go.B

theorem ints_cells {w : World} {A : Option Addr} {l : Nat} {ns : List Int} (h : Ints w .i64 A l ns) : Cells w A (IL.flat ns) := by
  rw [IL_flat]
  intro j v hv
  have hj : j < ns.length := by have := (List.getElem?_eq_some_iff.1 hv).1; simpa [ints] using this
  rw [ints_get hj] at hv
  cases hv
  exact h.cells j (by have := h.len; omega)
set_option maxRecDepth 8000 in
set_option maxHeartbeats 4000000 in
theorem asks_c {w : World} {base g cap : Nat} {es : Nat → En} (h : WAt w base g cap es) (hcap : cap ≤ 1100000) {i j : Nat} (hi : i < 4) (hj : j < 4) {o : Op} (hin : o.In w) (hol : o.l ≤ 1048576) {R : Ending → World → Prop} (k : ∀ w', Ext [] w w' → R (.returned (.bool true)) w') :
    Calls Try.prog 71 #[.pointer (some ⟨g, 0, none⟩), .agg #[.int .i64 o.kind, .int .i64 o.at_, .int .i64 o.to, .string o.key, .int .i64 o.slot, .int .i64 o.n, .int .i64 o.cmp, .slice o.A o.l o.c], .int .i64 (i : Int), .int .i64 (j : Int)] w R := by
  apply berthlaw08_World_asks_nf
  intro w12 h12
  obtain ⟨b12, x12, z12⟩ := box_new (cs := o.cells) h12
  have h12w := h.ext0 x12
  have hen := h.en i hi
  refine ⟨fun w' => Ext [] w12 w', (Ext.refl _ _).drew, ptr_in (when_dec ⟨by omega, by omega⟩ ⟨_, fun w' e => w_ptr (h12w.ext0 e).blk hi, ptr_in (when_dec ⟨by omega, by omega⟩ ⟨_, _, _, _, cellsC_S (fun w' e => w_doc (h12w.ext0 e).blk hi), fun w20 h20 => ?_⟩)⟩)⟩
  obtain ⟨b20, x20, z20⟩ := doc_box (d := ⟨0, none, 0, 0, []⟩) h20
  obtain ⟨w21, hr21, b21, x21⟩ := doc_store b20 rfl (es i).d
  have hs12 : (World.drew w12).heap.size = w12.heap.size := rfl
  have e21 : Ext [] w12 w21 := x20.undrew.trans' x21 (fun b hb => .inr (by simp at hb; omega))
  have E21 : Ext [] w w21 := x12.trans e21
  refine ⟨x20.undrew, w21, hr21, ?_⟩
  obtain ⟨x, hx⟩ : ∃ x, (es i).x = x := ⟨_, rfl⟩
  obtain ⟨d, hd⟩ : ∃ d, (es i).d = d := ⟨_, rfl⟩
  obtain ⟨q, hq⟩ : ∃ q, (es i).q = q := ⟨_, rfl⟩
  have rel : Rel x d.rows := by rw [← hx, ← hd]; exact hen.rel
  have ok : IxOk x := by rw [← hx]; exact hen.ok
  have B21 : IxB w21 q x := by rw [← hx, ← hq]; exact (hen.ext0 E21).b (by omega)
  have D21 : DocR w21 d := by rw [← hd]; exact hen.doc.ext0 E21
  have dl : d.l ≤ 1100000 := by rw [← hd]; have := hen.dl; omega
  have hN : d.N = (x.N : Int) := by rw [← hd, ← hx]; exact hen.N
  have W21 := h.ext0 E21
  have ob21 := b12.ext0 e21
  rw [hd] at b21
  rw [hq]
  have ob : ∀ w', Ext [] w21 w' → BlkT w' w.heap.size o.cells 50 := fun w' e => ob21.ext0 e
  have db : ∀ w', Ext [] w21 w' → BlkT w' (World.drew w12).heap.size d.cells 58 := fun w' e => b21.ext0 e
  have d21 : Ext [] w21 w21.drew := (Ext.refl _ _).drew
  have k21 : ∀ w', Ext [] w21 w' → R (.returned (.bool true)) w' := fun w' e => k w' (E21.trans e)
  -- an answer that is a set
  have fin : ∀ (p bw : Nat) (S : SetV) (φ : Nat → Prop) (Q : Int → Prop) (w51 w54 : World) (B : Option Addr) (m c : Nat) (ys : List Int), Ext [] w21 w51 → Holds w51 p bw x.N S φ → Ext [] w51 w54 → Ints w54 .i64 B m ys → RiseL ys → (∀ z, z ∈ ys ↔ ∃ r ∈ d.rows, (r.key = o.key ∧ Q r.n) ∧ r.slot = z) → (∀ i, φ i ↔ ∃ a, x.val o.key (i : Int) = some a ∧ Q a) →
      Calls Try.prog 61 #[.pointer (some ⟨g, 0, none⟩), .int .i64 (i : Int), .pointer (some ⟨p, 0, none⟩), .slice B m c] w54 fun e56 w57 => ∃ b55, e56 = .returned (.bool b55) ∧ Ext [] w21 w57 ∧ R (.returned (.bool b55)) w57 := fun p bw S φ Q w51 w54 B m c ys e51 hS e54 hints hr hm hφ => by
    have E54 := e51.trans e54
    refine set_c (W21.ext0 E54) hi (hS.set.ext0 e54) (by rw [hS.size, hx]) (rel.mi ok (Q := Q) hS.set.ok hS.mem hφ hr hm) hints fun w57 e57 => ⟨_, rfl, E54.trans e57, k21 w57 (E54.trans e57)⟩
  refine ⟨_, cadd ob21 rfl, sel_intro (fun h4 => ?_) (fun h4 => sel_intro (fun h5 => ?_) (fun h5 => sel_intro (fun h6 => ?_) (fun h6 => sel_intro (fun h7 => ?_) (fun h7 => sel_intro (fun h8 => ?_) (fun h8 => sel_intro (fun h9 => ?_) (fun h9 => sel_intro (fun h10 => ?_) (fun h10 => sel_intro (fun h11 => ?_) (fun h11 => k21 w21 (Ext.refl _ _)))))))))⟩
  · -- Get
    refine ⟨_, cadd ob21 rfl, _, cadd ob21 rfl, Get_c B21.g.r o.key o.slot fun w28 e28 => ⟨_, _, rfl, _, _, _, _, cadd0 (db w28 e28), _, cadd (ob w28 e28) rfl, _, cadd (ob w28 e28) rfl, DocAt_c (D21.ext0 e28) (by omega) o.key o.slot fun a w35 e35 hat => ⟨_, rfl, ?_⟩⟩⟩
    have E35 := e28.trans e35
    rcases hat with ⟨rfl, hno⟩ | ⟨a', r, rfl, hr, q1, q2⟩
    · rw [(rel.none_iff o.key o.slot).1 hno]
      exact sel_true (by decide) (sel_true rfl (k21 w35 E35))
    · rw [(rel.tell o.key o.slot r.n).2 ⟨r, List.mem_of_getElem? hr, q1, q2, rfl⟩]
      have ha : a' < d.l := by have := (List.getElem?_eq_some_iff.1 hr).1; have := D21.len; omega
      obtain ⟨r', ad, hr', hA, rd⟩ := doc_row (D21.ext0 E35) ha
      rw [hr] at hr'; cases hr'
      refine sel_false (by simp) (sel_true rfl ⟨_, _, _, cadd (db w35 E35) rfl, when_dec ⟨by omega, by omega⟩ ?_⟩)
      rw [hA]
      refine ptr_in ⟨_, rd 2 _ rfl, ?_⟩
      show R (.returned (.bool (r.n == r.n))) w35
      rw [beq_self_eq_true]
      exact k21 w35 E35
  · -- Find
    refine ⟨fun w' => Ext [] w21 w', d21, _, fun w' e => cadd (ob w' e) rfl, _, fun w' e => cadd (ob w' e) rfl, _, fun w' e => cadd (ob w' e) rfl, _, _, _, _, cellsC_S (fun w' e => cadd0 (db w' e)), _, fun w' e => cadd (ob w' e) rfl, _, fun w' e => cadd (ob w' e) rfl, _, fun w' e => cadd (ob w' e) rfl, ?_⟩
    refine Find_c' (B21.ext0 d21).g o.key o.cmp o.n hin.n0 hin.n1 fun p bw w51 S e51 hp hb hS => ⟨_, rfl, d21.trans e51, DocFind_c (D21.ext0 (d21.trans e51)) (by omega) o.key o.cmp o.n fun B m c ys w54 e54 own hr hm => ⟨_, _, _, rfl, d21.trans (e51.trans e54), ?_⟩⟩
    exact fin p bw S _ (fun a => standsP o.cmp a o.n) w51 w54 B m c ys (d21.trans e51) hS e54 (il_ints own.cells own.len) hr hm (fun i => Iff.rfl)
  · -- Between
    refine ⟨fun w' => Ext [] w21 w', d21, _, fun w' e => cadd (ob w' e) rfl, _, fun w' e => cadd (ob w' e) rfl, _, fun w' e => cadd (ob w' e) rfl, _, _, _, _, cellsC_S (fun w' e => cadd0 (db w' e)), _, fun w' e => cadd (ob w' e) rfl, _, fun w' e => cadd (ob w' e) rfl, _, fun w' e => cadd (ob w' e) rfl, ?_⟩
    refine Between_c (B21.ext0 d21).g o.key o.n o.slot fun p bw w51 S e51 hp hb hS => ⟨_, rfl, d21.trans e51, DocBetween_c (D21.ext0 (d21.trans e51)) (by omega) o.key o.n o.slot fun B m c ys w54 e54 own hr hm => ⟨_, _, _, rfl, d21.trans (e51.trans e54), ?_⟩⟩
    exact fin p bw S _ (fun a => o.n ≤ a ∧ a ≤ o.slot) w51 w54 B m c ys (d21.trans e51) hS e54 (il_ints own.cells own.len) hr hm (fun i => Iff.rfl)
  · -- Among
    have hn21 : Ints w21 .i64 o.A o.l o.ns := hin.ns.ext0 E21
    have hmul : d.l * o.l ≤ 4000000000000 := Nat.le_trans (Nat.mul_le_mul dl hol) (by omega)
    refine ⟨_, _, _, _, cadd0 b21, _, cadd ob21 rfl, _, _, _, cadd ob21 rfl, DocAmong_c D21 hn21 hmul (by omega) (by omega) o.key fun B m c ys w83 e83 own hr hm => ⟨_, _, _, rfl, fun w' => Ext [] w21 w', e83.drew, _, fun w' e => cadd (ob w' e) rfl, _, _, _, fun w' e => cadd (ob w' e) rfl, fun w88 h88 => ⟨?_, ?_⟩⟩⟩
    · subst h88; exact e83.drew.alloc _
    obtain ⟨A90, c90, w90, hr90, own90, e90⟩ := copyL (L := IL) (P := Try.prog) (ty := 37) (t := 37) (e := 3) (w := w83.drew) u37 i3 rfl (by omega) (ints_cells (hn21.ext0 e83.drew)) hn21.len h88 (by omega) o.c
    have E90 := e83.drew.trans e90
    refine ⟨_, _, _, w90, hr90, E90, Among_c' (B21.ext0 E90).g o.key (il_ints own90.cells own90.len) (fun ad e => (own90.base ad.block (by rw [e]; simp [ownF])).2) (by omega) fun p bw w93 S e93 hp hb hS => ⟨_, rfl, E90.trans e93, ?_⟩⟩
    exact fin p bw S _ (fun a => a ∈ o.ns) w93 w93 B m c ys (E90.trans e93) hS (Ext.refl _ _) ((il_ints own.cells own.len).ext0 ((Ext.refl _ _).drew.trans (e90.trans e93))) hr hm (fun i => Iff.rfl)
  · -- Has
    refine ⟨fun w' => Ext [] w21 w', d21, _, fun w' e => cadd (ob w' e) rfl, _, _, _, _, cellsC_S (fun w' e => cadd0 (db w' e)), _, fun w' e => cadd (ob w' e) rfl, ?_⟩
    refine Has_c' (B21.ext0 d21).g o.key fun p bw w51 S e51 hp hb hS => ⟨_, rfl, d21.trans e51, DocHas_c (D21.ext0 (d21.trans e51)) (by omega) o.key fun B m c ys w54 e54 own hr hm => ⟨_, _, _, rfl, d21.trans (e51.trans e54), ?_⟩⟩
    exact fin p bw S _ (fun _ => True) w51 w54 B m c ys (d21.trans e51) hS e54 (il_ints own.cells own.len) hr hm (fun i => by unfold hasP; simp)
  · -- Keys
    refine ⟨fun w' => Ext [] w21 w', d21, _, _, _, _, cellsC_S (fun w' e => cadd0 (db w' e)), ?_⟩
    refine KeysB_c (B21.ext0 d21) fun A n c xs w51 e51 own hk hn => ⟨_, _, _, rfl, d21.trans e51, DocKeys_c (D21.ext0 (d21.trans e51)) (by omega) fun B m c' ys w54 e54 own' hs hm => ⟨_, _, _, rfl, d21.trans (e51.trans e54), ?_⟩⟩
    refine textsAre_c (own.cells.ext0 e54) own.len own'.cells own'.len (by omega) (rel.keys ok hk hs hm) fun w57 e57 => ⟨_, rfl, (d21.trans (e51.trans e54)).trans e57, k21 w57 ((d21.trans (e51.trans e54)).trans e57)⟩
  · -- Rows
    exact ⟨_, cadd ob21 rfl, _, cadd ob21 rfl, rows_c W21 (by omega) hi o.key o.slot fun w29 e29 => ⟨_, rfl, k21 w29 e29⟩⟩
  · -- Same
    have hen' := h.en j hj
    refine ⟨fun w' => Ext [] w21 w', d21, ptr_in (when_dec ⟨by omega, by omega⟩ ⟨_, fun w' e => w_ptr (W21.ext0 e).blk hj, _, _, _, _, cellsC_S (fun w' e => cadd0 (db w' e)), ptr_in (when_dec ⟨by omega, by omega⟩ ⟨_, _, _, _, cellsC_S (fun w' e => w_doc (W21.ext0 e).blk hj), ?_⟩)⟩)⟩
    refine SameB_c (B21.ext0 d21) ((hen'.ext0 (E21.trans d21)).b (by omega)) fun t w41 ht e41 => ⟨_, rfl, d21.trans e41, DocSame_c (D21.ext0 (d21.trans e41)) (hen'.doc.ext0 (E21.trans (d21.trans e41))) (by omega) (by have := hen'.dl; omega) hen'.rel.uniq fun t' w44 e44 ht' => ⟨_, rfl, d21.trans (e41.trans e44), ?_⟩⟩
    have : t = t' := by
      rw [Bool.eq_iff_iff, ht, ht']
      exact Rel.same rel hen'.rel
    rw [this, beq_self_eq_true]
    exact k21 w44 (d21.trans (e41.trans e44))
end Go.Proofs.Ytjlkdadafddodaa
