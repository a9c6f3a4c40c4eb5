/- Whatever script comes in, berthlaw25.QueuePlays returns true and leaves what came in as it was. -/
import Derived.Test.YtfjgiaimlmnepaaR2
import Derived.Test.YtfjgiaimlmnepaaRows
set_option linter.unusedVariables false
set_option linter.unusedSimpArgs false
namespace Go.Proofs.Ytfjgiaimlmnepaa
open Go Go.V Go.B
open Go.ChangeShapes Go.WideShapes Go.ChangeAt Go.RowKit

theorem own : ownKnob Try.prog.godebug = none := by kernel_rfl
theorem laidOut : laidOutB Try.prog = true := by kernel_rfl
theorem i26s : (Try.prog.info? 26).map (·.size) = some 1 := by kernel_rfl
theorem cadd2 {w : World} {g : Nat} {cs : List Value} {T : TypeId} (h : BlkT w g cs T) {i j : Nat} {v : Value} (hv : cs[i + j]? = some v) : w.cell? (Addr.add (Addr.add ⟨g, 0, none⟩ i) j) = some v := by
  rw [Addr.add_add]; exact cadd h hv
def pr (p : Nat) (A : Option Addr) (n c : Nat) (next : Int) : List Value := [.pointer (some ⟨p, 0, none⟩), .slice A n c, .int .i64 next]
theorem pair_R {w : World} {b p : Nat} {A : Option Addr} {n c : Nat} {next : Int} (h : BlkT w b (pr p A n c next) 58) : cellsC (fun a v => w.cell? a = some v) (Addr.add ⟨b, 0, none⟩ 1) [.slice A n c, .int .i64 next] := by
  rw [Addr.add0]
  refine blk_cellsC h.blk (o := 1) fun j v hj => ?_
  match j, hj with
  | 0, hj => exact hj
  | 1, hj => exact hj
  | (j + 2), hj => simp at hj
theorem pair_storeR {w : World} {b p : Nat} {A A' : Option Addr} {n n' c c' : Nat} {x x' : Int} (h : BlkT w b (pr p A n c x) 58) :
    ∃ w', Sem.run Try.prog (Instr.storeAt 56 (.pointer (some (Addr.add ⟨b, 0, none⟩ 1))) (.agg ⟨rq A' n' c' x'⟩)) w = .ok () w' ∧ BlkT w' b (pr p A' n' c' x') 58 ∧ Ext [b] w w' := by
  rw [Addr.add0]
  exact storeN (P := Try.prog) (t := 56) (n := 2) (o := 1) (vs := rq A' n' c' x') i56s h rfl (by simp [pr]) (rq_one _ _ _ _)
theorem pair_storeP {w : World} {b p p' : Nat} {A : Option Addr} {n c : Nat} {x : Int} (h : BlkT w b (pr p A n c x) 58) :
    ∃ w', Sem.run Try.prog (Instr.storeAt 26 (.pointer (some (Addr.add ⟨b, 0, none⟩ 0))) (.pointer (some ⟨p', 0, none⟩))) w = .ok () w' ∧ BlkT w' b (pr p' A n c x) 58 ∧ Ext [b] w w' :=
  store1a (P := Try.prog) (t := 26) (v := .pointer (some ⟨p', 0, none⟩)) i26s h (i := 0) (by simp [pr]) rfl rfl
/-- The program's queue and the document's are the same. -/
structure PairAt (W w : World) (bg : Nat) (s : QS) (f : List Nat) (p B : Nat) (A : Option Addr) (n c : Nat) : Prop where
  blk : BlkT w bg (pr p A n c s.next) 58
  hat : At w B p f s
  own : OwnW w W.heap.size A n c s.xs
  ext : Ext [] W w
  hf : ∀ b ∈ f, W.heap.size ≤ b
  hbg : W.heap.size ≤ bg
  bf : bg ∉ f
  bA : bg ∉ ownF A
  fA : ∀ b ∈ f, b ∉ ownF A
def Good (W w : World) (bg : Nat) : Prop := ∃ s f p B A n c, PairAt W w bg s f p B A n c
theorem PairAt.ext0 {W w w' : World} {bg : Nat} {s : QS} {f : List Nat} {p B : Nat} {A : Option Addr} {n c : Nat} (h : PairAt W w bg s f p B A n c) (e : Ext [] w w') : PairAt W w' bg s f p B A n c :=
  ⟨h.blk.ext e (by simp), h.hat.ext0 e, h.own.ext0 e, h.ext.trans e, h.hf, h.hbg, h.bf, h.bA, h.fA⟩
theorem asks_c {W w : World} {bg : Nat} (h : Good W w bg) {R : Ending → World → Prop} (k : ∀ w', Ext [] w w' → R (.returned (.bool true)) w') : Calls Try.prog 30 #[.pointer (some ⟨bg, 0, none⟩)] w R := by
  obtain ⟨s, f, p, B, A, n, c, h⟩ := h
  apply berthlaw25_Pair_asks_nf
  have hl := h.own.len
  obtain ⟨m, inv⟩ := h.hat.inv
  have hlen := inv.len
  have bS : ∀ w', Ext [] w w' → BlkT w' bg (pr p A n c s.next) 58 := fun w' e => h.blk.ext e (by simp)
  have d : Ext [] w w.drew := (Ext.refl [] w).drew
  refine ⟨fun w' => Ext [] w w', d, ptr_in ⟨_, fun w' e => cadd (bS w' e) rfl, sel_false rfl (ptr_in ⟨_, fun w' e => cadd (bS w' e) rfl, ptr_in ⟨_, _, _, fun w' e => cadd2 (bS w' e) rfl, Len_c (h.hat.ext0 d) ⟨_, rfl, d, sel_false (by simp; omega) ?_⟩⟩⟩)⟩⟩
  refine ptr_in ⟨_, fun w' e => cadd (bS w' e) rfl, ptr_in ⟨_, fun w' e => cadd2 (bS w' e) rfl, Next_c (h.hat.ext0 d) ⟨_, rfl, d, sel_false (by simp) ?_⟩⟩⟩
  have d2 := d.drew
  refine ⟨fun w' => Ext [] w w', d2, ptr_in ⟨_, fun w' e => cadd (bS w' e) rfl, ptr_in ⟨_, _, _, fun w' e => cadd2 (bS w' e) rfl, List_c (h.hat.ext0 d2) fun L lc w1 e1 own1 => ⟨_, _, _, rfl, d2.trans e1, ?_⟩⟩⟩⟩
  exact SameRows_c own1.cells rfl (h.own.ext0 (d2.trans e1)).cells hl (by omega) (fun _ w2 e2 => ⟨_, rfl, (d2.trans e1).trans e2, k w2 ((d2.trans e1).trans e2)⟩) (fun h => absurd rfl h)
theorem op_copy {w w1 : World} {o : Op} (h : w1 = w.alloc (.cells ⟨o.cells⟩ 31)) : BlkT w1 w.heap.size o.cells 31 ∧ Ext [] w w1 := by
  obtain ⟨b1, x1, _⟩ := box_new (cs := o.cells) h
  exact ⟨b1, x1⟩
theorem making_c {W w : World} {bg : Nat} (h : Good W w bg) {o : Op} (ho : o.In W) {R : Ending → World → Prop} (k : ∀ w', Good W w' bg → R (.returned (.bool true)) w') :
    Calls Try.prog 36 #[.pointer (some ⟨bg, 0, none⟩), .agg ⟨o.cells⟩] w R := by
  obtain ⟨s, f, p, B, A, n, c, h⟩ := h
  unfold Op.cells
  apply berthlaw25_Pair_making_nf
  intro w1 h1
  obtain ⟨b1, x1⟩ := op_copy (o := o) h1
  have g1 := h.ext0 x1
  have hl := h.own.len
  obtain ⟨m, inv⟩ := h.hat.inv
  have hlen := inv.len
  refine ⟨_, cadd b1 rfl, sel_intro (fun _ => ?_) (fun _ => sel_intro (fun _ => ?_) (fun _ => ?_))⟩
  · -- a new queue
    refine New_c fun p' f' w2 e2 q2 hf' => ⟨_, rfl, ptr_in ?_⟩
    have g2 := g1.ext0 e2
    obtain ⟨w3, hr3, b3, e3⟩ := pair_storeP (p' := p') g2.blk
    obtain ⟨w4, hr4, b4, e4⟩ := pair_storeR (A' := none) (n' := 0) (c' := 0) (x' := 0) b3
    have hW := g1.ext.size
    have hbl := g1.blk.lt
    have hbf : bg ∉ f' := fun hm => by have := hf' _ hm; omega
    refine ⟨w3, hr3, ptr_in ⟨w4, hr4, ptr_in ⟨_, cadd b4 rfl, k w4 ⟨⟨[], 0⟩, f', p', w1.heap.size, none, 0, 0, b4, ?_, World.ownsRow_nil _ _ _ _, ?_, fun b hb => Nat.le_trans hW (hf' b hb), h.hbg, hbf, by simp [ownF], by simp [ownF]⟩⟩⟩⟩
    · exact (At.ext (s := ⟨[], 0⟩) q2 e3 (fun b hb => by simp; exact fun e => hbf (e ▸ hb))).ext e4 (fun b hb => by simp; exact fun e => hbf (e ▸ hb))
    · exact (g2.ext.trans' e3 (fun b hb => .inr (by simp at hb; rw [hb]; exact h.hbg))).trans' e4 (fun b hb => .inr (by simp at hb; rw [hb]; exact h.hbg))
  · -- itself again
    have d : Ext [] w1 w1.drew := (Ext.refl [] w1).drew
    have bS : ∀ w', Ext [] w1 w' → BlkT w' bg (pr p A n c s.next) 58 := fun w' e => g1.blk.ext e (by simp)
    refine ⟨fun w' => Ext [] w1 w', d, ptr_in ⟨_, fun w' e => cadd (bS w' e) rfl, ptr_in ⟨_, fun w' e => cadd (bS w' e) rfl, List_c (g1.hat.ext0 d) fun L lc w2 e2 own2 => ⟨_, _, _, rfl, d.trans e2, Next_c ((g1.hat.ext0 d).ext0 e2) ⟨_, rfl, d.trans e2, ?_⟩⟩⟩⟩⟩
    have d2 := d.trans e2
    refine Restore_c own2.cells rfl s.next (fun hv => absurd inv.valid hv) (fun _ w3 p' f' e3 q3 hf' => ⟨_, _, rfl, d2.trans e3, sel_false rfl (num_c _ ⟨_, rfl, sel_false rfl (ptr_in ?_)⟩)⟩)
    have d3 := d2.trans e3
    have g3 := g1.ext0 d3
    obtain ⟨w4, hr4, b4, e4⟩ := pair_storeP (p' := p') g3.blk
    have hW := g1.ext.size
    have hbl := g1.blk.lt
    have hs2 := d2.size
    have hbf : bg ∉ f' := fun hm => by have := hf' _ hm; omega
    have q3' : At w3 w2.heap.size p' f' s := q3
    refine ⟨w4, hr4, k w4 ⟨s, f', p', w2.heap.size, A, n, c, b4, q3'.ext e4 (fun b hb => by simp; exact fun e => hbf (e ▸ hb)), g3.own.ext e4 (fun b hb => by simp; exact fun e => h.bA (e ▸ hb)), g3.ext.trans' e4 (fun b hb => .inr (by simp at hb; rw [hb]; exact h.hbg)), fun b hb => by have := hf' b hb; omega, h.hbg, hbf, h.bA, fun b hb hm => ?_⟩⟩
    have := hf' b hb
    have := (g1.own.base b hm).2
    omega
  · -- restored
    have d : Ext [] w1 w1.drew := (Ext.refl [] w1).drew
    have oS : ∀ w', Ext [] w1 w' → BlkT w' w.heap.size o.cells 31 := fun w' e => b1.ext e (by simp)
    have oR := fun (w' : World) (e : Ext [] w1 w') => (ho.ext0 (g1.ext.trans e)).1
    refine ⟨fun w' => Ext [] w1 w', d, _, _, _, fun w' e => cadd (oS w' e) rfl, _, fun w' e => cadd (oS w' e) rfl, rows_c (oR _ d) ho.2.1 (Nat.le_trans ho.2.2 (by omega)) fun L lc w2 e2 own2 => ⟨_, _, _, rfl, d.trans e2, ?_⟩⟩
    have d2 := d.trans e2
    -- the document's answer
    refine Restore_c own2.cells own2.len o.now (fun hv w3 e3 => ⟨_, _, rfl, d2.trans e3, _, _, _, cadd (oS _ (d2.trans e3)) rfl, _, cadd (oS _ (d2.trans e3)) rfl, ?_⟩) (fun hv w3 p' f' e3 q3 hf' => ⟨_, _, rfl, d2.trans e3, _, _, _, cadd (oS _ (d2.trans e3)) rfl, _, cadd (oS _ (d2.trans e3)) rfl, ?_⟩)
    · have d3 := d2.trans e3
      refine refRestore_c (oR _ d3) ho.2.1 o.now (fun _ w4 e4 => ⟨_, _, _, _, _, rfl, fun w5 h5 => ?_⟩) (fun v => absurd v hv)
      obtain ⟨b5, e5, z5⟩ := box_new (cs := rq none 0 0 0) h5
      obtain ⟨w6, hr6, b6, e6⟩ := rq_store b5 rfl none 0 0 0
      have e46 : Ext [] w4 w6 := e5.trans' e6 (fun b hb => .inr (by simp at hb; omega))
      exact ⟨w6, hr6, num_c _ ⟨_, rfl, sel_false rfl (sel_false rfl (sel_false rfl (k w6 ⟨s, f, p, B, A, n, c, g1.ext0 ((d3.trans e4).trans e46)⟩)))⟩⟩
    · have d3 := d2.trans e3
      have q3' : At w3 w2.heap.size p' f' ⟨o.rows, o.now.toNat⟩ := q3
      refine refRestore_c (oR _ d3) ho.2.1 o.now (fun hn => absurd hv hn) (fun _ A4 c4 w4 e4 own4 => ⟨_, _, _, _, _, rfl, fun w5 h5 => ?_⟩)
      obtain ⟨b5, e5, z5⟩ := box_new (cs := rq none 0 0 0) h5
      obtain ⟨w6, hr6, b6, e6⟩ := rq_store b5 rfl A4 o.l c4 o.now
      have e46 : Ext [] w4 w6 := e5.trans' e6 (fun b hb => .inr (by simp at hb; omega))
      have d6 := (d3.trans e4).trans e46
      have dd : Ext [] w6 w6.drew := (Ext.refl [] w6).drew
      have g6 := (g1.ext0 d6).ext0 dd
      obtain ⟨w7, hr7, b7, e7⟩ := pair_storeP (p' := p') g6.blk
      obtain ⟨w8, hr8, b8, e8⟩ := pair_storeR (A' := A4) (n' := o.l) (c' := c4) (x' := o.now) b7
      have hbl := g1.blk.lt
      have s3 := d3.size
      have s2 := d2.size
      have s4 := e4.size
      have bq : w4.heap.size ≠ bg := by omega
      refine ⟨w6, hr6, num_c _ ⟨_, rfl, sel_false rfl (sel_false rfl (sel_true rfl ⟨fun w' => BlkT w' w4.heap.size (rq A4 o.l c4 o.now) 56, b6.ext dd (by simp), _, _, _, _, cellsC_S fun w' hS => cadd0 hS, ptr_in ⟨w7, hr7, (b6.ext dd (by simp)).ext e7 (by simp; exact bq), ptr_in ⟨w8, hr8, ?_⟩⟩⟩))⟩⟩
      have hnow : ((o.now.toNat : Nat) : Int) = o.now := by have := hv.1; omega
      have hbf : bg ∉ f' := fun hm => by have := hf' _ hm; omega
      have hbA : bg ∉ ownF A4 := fun hm => by have := (own4.base _ hm).1; omega
      have hW := g1.ext.size
      have e36 := (e4.trans e46).trans dd
      refine k w8 ⟨⟨o.rows, o.now.toNat⟩, f', p', w2.heap.size, A4, o.l, c4, ?_, ?_, ?_, ?_, fun b hb => by have := hf' b hb; omega, h.hbg, hbf, hbA, fun b hb hm => ?_⟩
      · show BlkT w8 bg (pr p' A4 o.l c4 ((o.now.toNat : Nat) : Int)) _
        rw [hnow]; exact b8
      · exact ((q3'.ext0 e36).ext e7 (fun b hb => by simp; exact fun e => hbf (e ▸ hb))).ext e8 (fun b hb => by simp; exact fun e => hbf (e ▸ hb))
      · exact (((OwnW.ext0 own4 (e46.trans dd)).ext e7 (fun b hb => by simp; exact fun e => hbA (e ▸ hb))).ext e8 (fun b hb => by simp; exact fun e => hbA (e ▸ hb))) |> fun o => own_weaken o (by omega)
      · exact (g6.ext.trans' e7 (fun b hb => .inr (by simp at hb; rw [hb]; exact h.hbg))).trans' e8 (fun b hb => .inr (by simp at hb; rw [hb]; exact h.hbg))
      · have h1 := q3'.lt b hb
        have h2 := (own4.base b hm).1
        omega

/-- Behind a call of the program's queue and one of the document's. -/
theorem Good.mk {W w w' : World} {bg b : Nat} {s' : QS} {f' : List Nat} {p B : Nat} {A A' : Option Addr} {n n' c c' : Nat} {x : Int} (blk : BlkT w bg (pr p A n c x) 58) (hat : At w B p f' s') (own : OwnW w W.heap.size A' n' c' s'.xs) (ext : Ext [] W w) (hf : ∀ b ∈ f', W.heap.size ≤ b) (hbg : W.heap.size ≤ bg) (bf : bg ∉ f') (bA : bg ∉ ownF A') (fA : ∀ b ∈ f', b ∉ ownF A') :
    ∃ w2, Sem.run Try.prog (Instr.storeAt 56 (.pointer (some (Addr.add ⟨bg, 0, none⟩ 1))) (.agg ⟨rq A' n' c' s'.next⟩)) w = .ok () w2 ∧ Good W w2 bg := by
  obtain ⟨w2, hr, b2, e2⟩ := pair_storeR (A' := A') (n' := n') (c' := c') (x' := s'.next) blk
  refine ⟨w2, hr, s', f', p, B, A', n', c', b2, hat.ext e2 (fun b hb => by simp; exact fun e => bf (e ▸ hb)), own.ext e2 (fun b hb => by simp; exact fun e => bA (e ▸ hb)), ext.trans' e2 (fun b hb => .inr (by simp at hb; rw [hb]; exact hbg)), hf, hbg, bf, bA, fA⟩
theorem changing_c {W w : World} {bg : Nat} (h : Good W w bg) {o : Op} {R : Ending → World → Prop} (k : ∀ w', Good W w' bg → R (.returned (.bool true)) w') :
    Calls Try.prog 38 #[.pointer (some ⟨bg, 0, none⟩), .agg ⟨o.cells⟩] w R := by
  obtain ⟨s, f, p, B, A, n, c, h⟩ := h
  unfold Op.cells
  apply berthlaw25_Pair_changing_nf
  intro w1 h1
  obtain ⟨b1, x1⟩ := op_copy (o := o) h1
  have g1 := h.ext0 x1
  have hl := h.own.len
  obtain ⟨m, inv⟩ := h.hat.inv
  have hlen := inv.len
  have hbl := h.blk.lt
  have hof : w.heap.size ∉ f := fun hm => by have := h.hat.lt _ hm; omega
  have hoA : w.heap.size ∉ ownF A := fun hm => by have := (h.own.base _ hm).2; omega
  have hobg : w.heap.size ≠ bg := by omega
  have hAlt : ∀ b ∈ ownF A, b < w.heap.size := fun b hb => (h.own.base b hb).2
  have d : Ext [] w1 w1.drew := (Ext.refl [] w1).drew
  have s1 := x1.size
  have w1s : w1.heap.size = w.heap.size + 1 := by rw [h1]; exact World.size_alloc _ _
  refine ⟨_, cadd b1 rfl, sel_intro (fun _ => ?_) (fun _ => sel_intro (fun _ => ?_) (fun _ => sel_intro (fun _ => ?_) (fun _ => ?_)))⟩
  · -- Push
    refine ⟨fun w' => BlkT w' bg (pr p A n c s.next) 58 ∧ BlkT w' w.heap.size o.cells 31, ⟨g1.blk.ext d (by simp), b1.ext d (by simp)⟩, ptr_in ⟨_, fun w' hS => cadd hS.1 rfl, _, fun w' hS => cadd hS.2 rfl, _, fun w' hS => cadd hS.2 rfl, Push_v (g1.hat.ext0 d) o.name o.pr fun w2 f2 q2 e2 gr2 => ?_⟩⟩
    have hS2 : BlkT w2 bg (pr p A n c s.next) 58 ∧ BlkT w2 w.heap.size o.cells 31 := ⟨(g1.blk.ext d (by simp)).ext e2 h.bf, (b1.ext d (by simp)).ext e2 hof⟩
    refine ⟨_, rfl, hS2, ?_⟩
    have own2 := (g1.own.ext0 d).ext e2 (fun b hb hm => h.fA b hm hb)
    have t2 : Ext [] W w2 := Ext.old (g1.ext.trans d) h.hf e2
    have hf2 := Grow.old (g1.ext.trans d) h.hf gr2
    have bf2 : bg ∉ f2 := fun hm => by
      rcases gr2 _ hm with hm | hm
      · exact h.bf hm
      · have := d.size; omega
    have fA2 : ∀ b ∈ f2, b ∉ ownF A := gr2.apart (fun b hb => by have := hAlt b hb; have := d.size; omega) h.fA
    have d2 : Ext [] w2 w2.drew := (Ext.refl [] w2).drew
    have oS : ∀ w', Ext [] w2 w' → BlkT w' w.heap.size o.cells 31 := fun w' e => hS2.2.ext e (by simp)
    have gS : ∀ w', Ext [] w2 w' → BlkT w' bg (pr p A n c s.next) 58 := fun w' e => hS2.1.ext e (by simp)
    have s2 := e2.size
    refine ⟨fun r x w' => ∃ (b : Nat) (A' : Option Addr) (n' c' : Nat), r = some ⟨b, 0, none⟩ ∧ x = (pushV s o.name o.pr).2 ∧ BlkT w' b (rq A' n' c' (pushV s o.name o.pr).1.next) 56 ∧ OwnW w' W.heap.size A' n' c' (pushV s o.name o.pr).1.xs ∧ Ext [] w2 w' ∧ (∀ b ∈ ownF A', b ∈ ownF A ∨ w2.heap.size ≤ b),
      ⟨fun w' => Ext [] w2 w', d2, ptr_in ⟨_, _, _, _, cellsC_S fun w' hS => pair_R (gS w' hS), _, fun w' hS => cadd (oS w' hS) rfl, _, fun w' hS => cadd (oS w' hS) rfl, ?_, ?_, trivial⟩⟩, ?_⟩
    · refine refPush_c (own2.ext0 d2) (Nat.le_trans t2.size d2.size) (by omega) inv.nx o.name o.pr fun A' n' c' w3 e3 own3 hA3 => ⟨_, _, _, _, _, rfl, d2.trans e3, fun w4 h4 => ?_⟩
      obtain ⟨b4, e4, z4⟩ := box_new (cs := rq none 0 0 0) h4
      obtain ⟨w5, hr5, b5, e5⟩ := rq_store b4 rfl A' n' c' (pushV s o.name o.pr).1.next
      have f4 := (d2.trans e3).trans e4
      have f5 : Ext [] w2 w5 := f4.trans' e5 (fun b hb => .inr (by simp at hb; have := (d2.trans e3).size; omega))
      have hb3 := own3.base
      exact ⟨f4, w5, hr5, f5, _, A', n', c', rfl, rfl, b5, (own3.ext0 e4).ext e5 (fun b hb => by simp; have := (hb3 b hb).2; omega), f5, hA3⟩
    · intro w3 h3
      obtain ⟨b3, e3, z3⟩ := box_new (cs := rq none 0 0 0) h3
      refine ⟨d2.trans e3, refPush_c ((own2.ext0 d2).ext0 e3) (Nat.le_trans t2.size (d2.trans e3).size) (by omega) inv.nx o.name o.pr fun A' n' c' w4 e4 own4 hA4 => ⟨_, _, _, _, _, rfl, (d2.trans e3).trans e4, ?_⟩⟩
      obtain ⟨w5, hr5, b5, e5⟩ := rq_store (b3.ext e4 (by simp)) rfl A' n' c' (pushV s o.name o.pr).1.next
      have f4 := (d2.trans e3).trans e4
      have f5 : Ext [] w2 w5 := f4.trans' e5 (fun b hb => .inr (by simp at hb; have := d2.size; omega))
      have hb0 : ∀ b ∈ ownF A', b ≠ w2.drew.heap.size := fun b hb => by
        have := d2.size
        have := d.size
        rcases hA4 b hb with h1 | h1
        · have := hAlt b h1; omega
        · omega
      exact ⟨w5, hr5, f5, _, A', n', c', rfl, rfl, b5, own4.ext e5 (fun b hb => by simp; exact hb0 b hb), f5, fun b hb => by
        have := d2.size
        rcases hA4 b hb with h1 | h1
        · exact .inl h1
        · exact .inr (by omega)⟩
    · rintro _ _ _ w3 ⟨b, A', n', c', rfl, rfl, b3, own3, e3, hA'⟩
      have bA' : bg ∉ ownF A' := fun hm => by
        have := d.size
        rcases hA' _ hm with h1 | h1
        · exact h.bA h1
        · omega
      have fA' : ∀ b ∈ f2, b ∉ ownF A' := fun x hx hm => by
        rcases hA' _ hm with h1 | h1
        · exact fA2 x hx h1
        · have := q2.lt x hx; omega
      obtain ⟨w4, hr4, G4⟩ := Good.mk (gS w3 e3) (q2.ext0 e3) own3 (t2.trans e3) hf2 h.hbg bf2 bA' fA' (w' := w3) (b := 0)
      refine ptr_in ⟨_, _, _, _, cadd0 b3, ptr_in ⟨w4, hr4, num_c _ ⟨_, rfl, ?_⟩⟩⟩
      rw [show ((pushV s o.name o.pr).2 == (pushV s o.name o.pr).2) = true by simp]
      exact k w4 G4
  · -- Take
    have gS1 : ∀ w', Ext [] w1 w' → BlkT w' bg (pr p A n c s.next) 58 ∧ BlkT w' w.heap.size o.cells 31 := fun w' e => ⟨g1.blk.ext e (by simp), b1.ext e (by simp)⟩
    obtain ⟨v, hv⟩ : ∃ v, v = (takeV s o.name).2.1 := ⟨_, rfl⟩
    refine ⟨fun r x w' => ∃ b : Nat, r = some ⟨b, 0, none⟩ ∧ x = (takeV s o.name).2.2 ∧ BlkT w' b v.cells 34 ∧ At w' B p f (takeV s o.name).1 ∧ BlkT w' bg (pr p A n c s.next) 58 ∧ BlkT w' w.heap.size o.cells 31 ∧ OwnW w' W.heap.size A n c s.xs ∧ Ext [] W w' ∧ w1.heap.size ≤ b ∧ w1.heap.size ≤ w'.heap.size,
      ⟨fun w' => BlkT w' bg (pr p A n c s.next) 58 ∧ BlkT w' w.heap.size o.cells 31, gS1 _ d, ptr_in ⟨_, fun w' hS => cadd hS.1 rfl, _, fun w' hS => cadd hS.2 rfl, ?_, ?_, trivial⟩⟩, ?_⟩
    · refine Take_v (g1.hat.ext0 d) o.name fun w2 q2 e2 => ⟨_, _, _, _, _, _, _, rfl, ⟨(gS1 _ d).1.ext e2 h.bf, (gS1 _ d).2.ext e2 hof⟩, fun w3 h3 => ?_⟩
      obtain ⟨b3, e3, z3⟩ := box_new (cs := Wt.zero.cells) h3
      obtain ⟨w4, hr4, b4, e4⟩ := storeW (P := Try.prog) (t := 34) (n := 6) (vs := v.cells) i34s b3 rfl rfl (WL.one v)
      rw [hv] at hr4
      have s2 := e2.size
      have s0 := d.size
      have q2lt := q2.lt
      have nb : ∀ x, x < w2.heap.size → x ∉ [w2.heap.size] := fun x hx => by simp; omega
      have B2 := (gS1 _ d).1.ext e2 h.bf
      have O2 := (gS1 _ d).2.ext e2 hof
      have own2 := (g1.own.ext0 d).ext e2 (fun b hb hm => h.fA b hm hb)
      refine ⟨⟨B2.ext e3 (by simp), O2.ext e3 (by simp)⟩, w4, hr4, ⟨(B2.ext e3 (by simp)).ext e4 (nb _ (by omega)), (O2.ext e3 (by simp)).ext e4 (nb _ (by omega))⟩, _, rfl, rfl, b4, (q2.ext0 e3).ext e4 (fun b hb => nb b (q2lt b hb)), (B2.ext e3 (by simp)).ext e4 (nb _ (by omega)), (O2.ext e3 (by simp)).ext e4 (nb _ (by omega)), (own2.ext0 e3).ext e4 (fun b hb => nb b (by have := hAlt b hb; omega)), ?_, by omega, by have := e3.size; have := e4.size; omega⟩
      exact ((Ext.old (g1.ext.trans d) h.hf e2).trans e3).trans' e4 (fun b hb => .inr (by simp at hb; have := g1.ext.size; omega))
    · intro w2 h2
      obtain ⟨b2, e2, z2⟩ := box_new (cs := Wt.zero.cells) h2
      have s0 := d.size
      have G2 := gS1 w2 (d.trans e2)
      refine ⟨G2, Take_v ((g1.hat.ext0 d).ext0 e2) o.name fun w3 q3 e3 => ⟨_, _, _, _, _, _, _, rfl, ⟨G2.1.ext e3 h.bf, G2.2.ext e3 hof⟩, ?_⟩⟩
      have hbxf : w1.drew.heap.size ∉ f := fun hm => by have := h.hat.lt _ hm; omega
      obtain ⟨w4, hr4, b4, e4⟩ := storeW (P := Try.prog) (t := 34) (n := 6) (vs := v.cells) i34s (b2.ext e3 hbxf) rfl rfl (WL.one v)
      rw [hv] at hr4
      have s3 := e3.size
      have B3 := G2.1.ext e3 h.bf
      have O3 := G2.2.ext e3 hof
      have nb : ∀ x, x < w.heap.size + 1 → x ∉ [w1.drew.heap.size] := fun x hx => by
        simp; omega
      have own3 := ((g1.own.ext0 d).ext0 e2).ext e3 (fun b hb hm => h.fA b hm hb)
      refine ⟨w4, hr4, ⟨B3.ext e4 (nb _ (by omega)), O3.ext e4 (nb _ (by omega))⟩, _, rfl, rfl, b4, q3.ext e4 (fun b hb => nb b (by have := h.hat.lt b hb; omega)), B3.ext e4 (nb _ (by omega)), O3.ext e4 (nb _ (by omega)), own3.ext e4 (fun b hb => nb b (by have := hAlt b hb; omega)), ?_, by omega, by have := e2.size; have := e4.size; omega⟩
      exact (Ext.old ((g1.ext.trans d).trans e2) h.hf e3).trans' e4 (fun b hb => .inr (by simp at hb; have := g1.ext.size; omega))
    · rintro _ _ _ w2 ⟨bv, rfl, rfl, b2, q2, B2, O2, own2, t2, hbv, hs2⟩
      have d2 : Ext [] w2 w2.drew := (Ext.refl [] w2).drew
      have s0 := d2.size
      have oS : ∀ w', Ext [] w2 w' → BlkT w' w.heap.size o.cells 31 := fun w' e => O2.ext e (by simp)
      have gS : ∀ w', Ext [] w2 w' → BlkT w' bg (pr p A n c s.next) 58 := fun w' e => B2.ext e (by simp)
      -- both boxes filled
      obtain ⟨J, hJ⟩ : ∃ J : Option Addr → Option Addr → Int → World → Prop, J = fun r y x w' => ∃ (b b' : Nat) (A' : Option Addr) (n' c' : Nat), r = some ⟨b, 0, none⟩ ∧ y = some ⟨b', 0, none⟩ ∧ x = (takeV s o.name).2.2 ∧ BlkT w' b (rq A' n' c' (takeV s o.name).1.next) 56 ∧ BlkT w' b' v.cells 34 ∧ OwnW w' W.heap.size A' n' c' (takeV s o.name).1.xs ∧ Ext [] w2 w' ∧ (∀ b ∈ ownF A', b ∈ ownF A ∨ w2.heap.size ≤ b) := ⟨_, rfl⟩
      have fin : ∀ (w3 : World) (bq bw : Nat) (A' : Option Addr) (n' c' : Nat), Ext [] w2 w3 → BlkT w3 bq (rq none 0 0 0) 56 → BlkT w3 bw Wt.zero.cells 34 → bq ≠ bw → w2.heap.size ≤ bq → w2.heap.size ≤ bw → OwnW w3 W.heap.size A' n' c' (takeV s o.name).1.xs → bq ∉ ownF A' → bw ∉ ownF A' → (∀ b ∈ ownF A', b ∈ ownF A ∨ w2.heap.size ≤ b) →
          ∃ w4, Sem.run Try.prog (Instr.storeAt 56 (.pointer (some ⟨bq, 0, none⟩)) (.agg ⟨rq A' n' c' (takeV s o.name).1.next⟩)) w3 = .ok () w4 ∧ Ext [] w2 w4 ∧
          ∃ w5, Sem.run Try.prog (Instr.storeAt 34 (.pointer (some ⟨bw, 0, none⟩)) (.agg ⟨(takeV s o.name).2.1.cells⟩)) w4 = .ok () w5 ∧ Ext [] w2 w5 ∧ J (some ⟨bq, 0, none⟩) (some ⟨bw, 0, none⟩) (takeV s o.name).2.2 w5 := fun w3 bq bw A' n' c' e3 hq hw hne h1 h2 o3 nq nw hA' => by
        obtain ⟨w4, hr4, b4, e4⟩ := rq_store hq rfl A' n' c' (takeV s o.name).1.next
        obtain ⟨w5, hr5, b5, e5⟩ := storeW (P := Try.prog) (t := 34) (n := 6) (vs := v.cells) i34s (hw.ext e4 (by simp; exact Ne.symm hne)) rfl rfl (WL.one v)
        rw [hv] at hr5
        have f4 : Ext [] w2 w4 := e3.trans' e4 (fun b hb => .inr (by simp at hb; omega))
        have f5 : Ext [] w2 w5 := f4.trans' e5 (fun b hb => .inr (by simp at hb; omega))
        refine ⟨w4, hr4, f4, w5, hr5, f5, ?_⟩
        rw [hJ]
        exact ⟨bq, bw, A', n', c', rfl, rfl, rfl, b4.ext e5 (by simp; exact hne), b5, (o3.ext e4 (fun b hb => by simp; exact fun e => nq (e ▸ hb))).ext e5 (fun b hb => by simp; exact fun e => nw (e ▸ hb)), f5, hA'⟩
      -- the document's call from a world where the boxes that stand already are new
      have call : ∀ (w3 : World), Ext [] w2 w3 → ∀ {Q : Ending → World → Prop}, (∀ A' n' c' w', Ext [] w3 w' → OwnW w' W.heap.size A' n' c' (takeV s o.name).1.xs → (∀ b ∈ ownF A', b ∈ ownF A ∨ w3.heap.size ≤ b) → Q (.returned (.tuple #[.agg ⟨rq A' n' c' (takeV s o.name).1.next⟩, (takeV s o.name).2.1.val, .int .i64 (takeV s o.name).2.2])) w') →
          Calls Try.prog 45 #[.agg ⟨rq A n c s.next⟩, .string o.name] w3 Q := fun w3 e3 Q hQ =>
        refTake_c (own2.ext0 e3) (Nat.le_trans t2.size e3.size) (by omega) o.name hQ
      have away : ∀ {A' : Option Addr} {w3 : World} {b : Nat}, (∀ x ∈ ownF A', x ∈ ownF A ∨ w3.heap.size ≤ x) → w2.heap.size ≤ b → b < w3.heap.size → b ∉ ownF A' := fun {A'} {w3} {b} hA h1 h2 hm => by
        rcases hA b hm with h3 | h3
        · have := hAlt b h3; omega
        · omega
      have wide : ∀ {A' : Option Addr} {w3 : World}, Ext [] w2 w3 → (∀ x ∈ ownF A', x ∈ ownF A ∨ w3.heap.size ≤ x) → ∀ x ∈ ownF A', x ∈ ownF A ∨ w2.heap.size ≤ x := fun {A'} {w3} e hA x hx => by
        have := e.size
        rcases hA x hx with h3 | h3
        · exact .inl h3
        · exact .inr (by omega)
      refine ⟨J, ⟨fun w' => Ext [] w2 w', d2, ptr_in ⟨_, _, _, _, cellsC_S fun w' hS => pair_R (gS w' hS), _, fun w' hS => cadd (oS w' hS) rfl, ?_, ?_, ?_, trivial⟩⟩, ?_⟩
      · refine call _ d2 fun A' n' c' w3 e3 own3 hA3 => ⟨_, _, _, _, _, _, _, _, _, _, _, rfl, d2.trans e3, ?_, ?_, trivial⟩
        · intro w4 h4
          obtain ⟨b4, e4, z4⟩ := box_new (cs := rq none 0 0 0) h4
          refine ⟨(d2.trans e3).trans e4, fun w5 h5 => ?_⟩
          obtain ⟨b5, e5, z5⟩ := box_new (cs := Wt.zero.cells) h5
          have hb3 := own3.base
          have s3 := (d2.trans e3).size
          obtain ⟨w6, hr6, f6, w7, hr7, f7, hJ7⟩ := fin w5 _ _ A' n' c' (((d2.trans e3).trans e4).trans e5) (b4.ext e5 (by simp)) b5 (by omega) s3 (by omega) ((own3.ext0 e4).ext0 e5) (fun hm => by have := (hb3 _ hm).2; omega) (fun hm => by have := (hb3 _ hm).2; omega) (wide d2 hA3)
          exact ⟨((d2.trans e3).trans e4).trans e5, w6, hr6, f6, w7, hr7, f7, hJ7⟩
        · intro w4 h4
          obtain ⟨b4, e4, z4⟩ := box_new (cs := Wt.zero.cells) h4
          refine ⟨(d2.trans e3).trans e4, fun w5 h5 => ?_⟩
          obtain ⟨b5, e5, z5⟩ := box_new (cs := rq none 0 0 0) h5
          have hb3 := own3.base
          have s3 := (d2.trans e3).size
          obtain ⟨w6, hr6, f6, w7, hr7, f7, hJ7⟩ := fin w5 _ _ A' n' c' (((d2.trans e3).trans e4).trans e5) b5 (b4.ext e5 (by simp)) (by omega) (by omega) s3 ((own3.ext0 e4).ext0 e5) (fun hm => by have := (hb3 _ hm).2; omega) (fun hm => by have := (hb3 _ hm).2; omega) (wide d2 hA3)
          exact ⟨((d2.trans e3).trans e4).trans e5, w6, hr6, f6, w7, hr7, f7, hJ7⟩
      · intro w3 h3
        obtain ⟨b3, e3, z3⟩ := box_new (cs := rq none 0 0 0) h3
        refine ⟨d2.trans e3, ?_, ?_, trivial⟩
        · refine call _ (d2.trans e3) fun A' n' c' w4 e4 own4 hA4 => ⟨_, _, _, _, _, _, _, _, _, _, _, rfl, (d2.trans e3).trans e4, fun w5 h5 => ?_⟩
          obtain ⟨b5, e5, z5⟩ := box_new (cs := Wt.zero.cells) h5
          have hb4 := own4.base
          have s4 := e4.size
          obtain ⟨w6, hr6, f6, w7, hr7, f7, hJ7⟩ := fin w5 _ _ A' n' c' (((d2.trans e3).trans e4).trans e5) ((b3.ext e4 (by simp)).ext e5 (by simp)) b5 (by omega) s0 (by omega) (own4.ext0 e5) (away hA4 s0 (by omega)) (fun hm => by have := (hb4 _ hm).2; omega) (wide (d2.trans e3) hA4)
          exact ⟨((d2.trans e3).trans e4).trans e5, w6, hr6, f6, w7, hr7, f7, hJ7⟩
        · intro w4 h4
          obtain ⟨b4, e4, z4⟩ := box_new (cs := Wt.zero.cells) h4
          refine ⟨(d2.trans e3).trans e4, call _ ((d2.trans e3).trans e4) fun A' n' c' w5 e5 own5 hA5 => ⟨_, _, _, _, _, _, _, _, _, _, _, rfl, ((d2.trans e3).trans e4).trans e5, ?_⟩⟩
          obtain ⟨w6, hr6, f6, w7, hr7, f7, hJ7⟩ := fin w5 _ _ A' n' c' (((d2.trans e3).trans e4).trans e5) ((b3.ext e4 (by simp)).ext e5 (by simp)) (b4.ext e5 (by simp)) (by omega) s0 (by omega) own5 (away hA5 s0 (by omega)) (away hA5 (by omega) (by omega)) (wide ((d2.trans e3).trans e4) hA5)
          exact ⟨w6, hr6, f6, w7, hr7, f7, hJ7⟩
      · intro w3 h3
        obtain ⟨b3, e3, z3⟩ := box_new (cs := Wt.zero.cells) h3
        refine ⟨d2.trans e3, ?_, ?_, trivial⟩
        · refine call _ (d2.trans e3) fun A' n' c' w4 e4 own4 hA4 => ⟨_, _, _, _, _, _, _, _, _, _, _, rfl, (d2.trans e3).trans e4, fun w5 h5 => ?_⟩
          obtain ⟨b5, e5, z5⟩ := box_new (cs := rq none 0 0 0) h5
          have hb4 := own4.base
          have s4 := e4.size
          obtain ⟨w6, hr6, f6, w7, hr7, f7, hJ7⟩ := fin w5 _ _ A' n' c' (((d2.trans e3).trans e4).trans e5) b5 ((b3.ext e4 (by simp)).ext e5 (by simp)) (by omega) (by omega) s0 (own4.ext0 e5) (fun hm => by have := (hb4 _ hm).2; omega) (away hA4 s0 (by omega)) (wide (d2.trans e3) hA4)
          exact ⟨((d2.trans e3).trans e4).trans e5, w6, hr6, f6, w7, hr7, f7, hJ7⟩
        · intro w4 h4
          obtain ⟨b4, e4, z4⟩ := box_new (cs := rq none 0 0 0) h4
          refine ⟨(d2.trans e3).trans e4, call _ ((d2.trans e3).trans e4) fun A' n' c' w5 e5 own5 hA5 => ⟨_, _, _, _, _, _, _, _, _, _, _, rfl, ((d2.trans e3).trans e4).trans e5, ?_⟩⟩
          obtain ⟨w6, hr6, f6, w7, hr7, f7, hJ7⟩ := fin w5 _ _ A' n' c' (((d2.trans e3).trans e4).trans e5) (b4.ext e5 (by simp)) ((b3.ext e4 (by simp)).ext e5 (by simp)) (by omega) (by omega) s0 own5 (away hA5 (by omega) (by omega)) (away hA5 s0 (by omega)) (wide ((d2.trans e3).trans e4) hA5)
          exact ⟨w6, hr6, f6, w7, hr7, f7, hJ7⟩
      · intro r y x jj w3 hJ3
        rw [hJ] at hJ3
        obtain ⟨bq, bw, A', n', c', rfl, rfl, rfl, b3, v3, own3, e3, hA'⟩ := hJ3
        have bA' : bg ∉ ownF A' := fun hm => by
          rcases hA' _ hm with h1 | h1
          · exact h.bA h1
          · omega
        have fA' : ∀ b ∈ f, b ∉ ownF A' := fun x hx hm => by
          rcases hA' _ hm with h1 | h1
          · exact h.fA x hx h1
          · have := h.hat.lt x hx; omega
        obtain ⟨w4, hr4, b4, e4⟩ := pair_storeR (A' := A') (n' := n') (c' := c') (x' := (takeV s o.name).1.next) (gS w3 e3)
        have hbvbg : bv ∉ [bg] := by simp; omega
        have hbwbg : bw ∉ [bg] := by
          simp
          intro e
          have h1 := v3
          have h2 := gS w3 e3
          rw [e] at h1
          unfold BlkT at h1 h2
          rw [h1] at h2
          simp [pr, Wt.cells] at h2
        have G4 : Good W w4 bg := ⟨(takeV s o.name).1, f, p, B, A', n', c', b4, (q2.ext0 e3).ext e4 (fun b hb => by simp; exact fun e => h.bf (e ▸ hb)), own3.ext e4 (fun b hb => by simp; exact fun e => bA' (e ▸ hb)), (t2.trans e3).trans' e4 (fun b hb => .inr (by simp at hb; rw [hb]; exact h.hbg)), h.hf, h.hbg, h.bf, bA', fA'⟩
        refine ptr_in ⟨_, _, _, _, cadd0 b3, ptr_in ⟨w4, hr4, num_c _ ⟨_, rfl, sel_true (by simp) (ptr_in ⟨_, _, _, _, _, _, cadd0 ((b2.ext e3 (by simp)).ext e4 hbvbg), ptr_in ⟨_, _, _, _, _, _, cadd0 (v3.ext e4 hbwbg), ?_⟩⟩)⟩⟩⟩
        show R (.returned (.bool (same v v))) w4
        rw [same_iff.2 rfl]
        exact k w4 G4
  · -- Park
    refine ⟨fun w' => BlkT w' bg (pr p A n c s.next) 58 ∧ BlkT w' w.heap.size o.cells 31, ⟨g1.blk.ext d (by simp), b1.ext d (by simp)⟩, ptr_in ⟨_, fun w' hS => cadd hS.1 rfl, _, fun w' hS => cadd hS.2 rfl, _, fun w' hS => cadd hS.2 rfl, Park_v (g1.hat.ext0 d) o.name o.now fun w2 f2 q2 e2 gr2 => ?_⟩⟩
    have hS2 : BlkT w2 bg (pr p A n c s.next) 58 ∧ BlkT w2 w.heap.size o.cells 31 := ⟨(g1.blk.ext d (by simp)).ext e2 h.bf, (b1.ext d (by simp)).ext e2 hof⟩
    refine ⟨_, rfl, hS2, ?_⟩
    have own2 := (g1.own.ext0 d).ext e2 (fun b hb hm => h.fA b hm hb)
    have t2 : Ext [] W w2 := Ext.old (g1.ext.trans d) h.hf e2
    have hf2 := Grow.old (g1.ext.trans d) h.hf gr2
    have bf2 : bg ∉ f2 := fun hm => by
      rcases gr2 _ hm with hm | hm
      · exact h.bf hm
      · have := d.size; omega
    have fA2 : ∀ b ∈ f2, b ∉ ownF A := gr2.apart (fun b hb => by have := hAlt b hb; have := d.size; omega) h.fA
    have d2 : Ext [] w2 w2.drew := (Ext.refl [] w2).drew
    have oS : ∀ w', Ext [] w2 w' → BlkT w' w.heap.size o.cells 31 := fun w' e => hS2.2.ext e (by simp)
    have gS : ∀ w', Ext [] w2 w' → BlkT w' bg (pr p A n c s.next) 58 := fun w' e => hS2.1.ext e (by simp)
    have s2 := e2.size
    refine ⟨fun r x w' => ∃ (b : Nat) (A' : Option Addr) (n' c' : Nat), r = some ⟨b, 0, none⟩ ∧ x = (parkV s o.name o.now).2 ∧ BlkT w' b (rq A' n' c' (parkV s o.name o.now).1.next) 56 ∧ OwnW w' W.heap.size A' n' c' (parkV s o.name o.now).1.xs ∧ Ext [] w2 w' ∧ (∀ b ∈ ownF A', b ∈ ownF A ∨ w2.heap.size ≤ b),
      ⟨fun w' => Ext [] w2 w', d2, ptr_in ⟨_, _, _, _, cellsC_S fun w' hS => pair_R (gS w' hS), _, fun w' hS => cadd (oS w' hS) rfl, _, fun w' hS => cadd (oS w' hS) rfl, ?_, ?_, trivial⟩⟩, ?_⟩
    · refine refPark_c (own2.ext0 d2) (Nat.le_trans t2.size d2.size) (by omega) inv.tries o.name o.now fun A' n' c' w3 e3 own3 hA3 => ⟨_, _, _, _, _, rfl, d2.trans e3, fun w4 h4 => ?_⟩
      obtain ⟨b4, e4, z4⟩ := box_new (cs := rq none 0 0 0) h4
      obtain ⟨w5, hr5, b5, e5⟩ := rq_store b4 rfl A' n' c' (parkV s o.name o.now).1.next
      have f4 := (d2.trans e3).trans e4
      have f5 : Ext [] w2 w5 := f4.trans' e5 (fun b hb => .inr (by simp at hb; have := (d2.trans e3).size; omega))
      have hb3 := own3.base
      exact ⟨f4, w5, hr5, f5, _, A', n', c', rfl, rfl, b5, (own3.ext0 e4).ext e5 (fun b hb => by simp; have := (hb3 b hb).2; omega), f5, hA3⟩
    · intro w3 h3
      obtain ⟨b3, e3, z3⟩ := box_new (cs := rq none 0 0 0) h3
      refine ⟨d2.trans e3, refPark_c ((own2.ext0 d2).ext0 e3) (Nat.le_trans t2.size (d2.trans e3).size) (by omega) inv.tries o.name o.now fun A' n' c' w4 e4 own4 hA4 => ⟨_, _, _, _, _, rfl, (d2.trans e3).trans e4, ?_⟩⟩
      obtain ⟨w5, hr5, b5, e5⟩ := rq_store (b3.ext e4 (by simp)) rfl A' n' c' (parkV s o.name o.now).1.next
      have f4 := (d2.trans e3).trans e4
      have f5 : Ext [] w2 w5 := f4.trans' e5 (fun b hb => .inr (by simp at hb; have := d2.size; omega))
      have hb0 : ∀ b ∈ ownF A', b ≠ w2.drew.heap.size := fun b hb => by
        have := d2.size
        have := d.size
        rcases hA4 b hb with h1 | h1
        · have := hAlt b h1; omega
        · omega
      exact ⟨w5, hr5, f5, _, A', n', c', rfl, rfl, b5, own4.ext e5 (fun b hb => by simp; exact hb0 b hb), f5, fun b hb => by
        have := d2.size
        rcases hA4 b hb with h1 | h1
        · exact .inl h1
        · exact .inr (by omega)⟩
    · rintro _ _ _ w3 ⟨b, A', n', c', rfl, rfl, b3, own3, e3, hA'⟩
      have bA' : bg ∉ ownF A' := fun hm => by
        have := d.size
        rcases hA' _ hm with h1 | h1
        · exact h.bA h1
        · omega
      have fA' : ∀ b ∈ f2, b ∉ ownF A' := fun x hx hm => by
        rcases hA' _ hm with h1 | h1
        · exact fA2 x hx h1
        · have := q2.lt x hx; omega
      obtain ⟨w4, hr4, G4⟩ := Good.mk (gS w3 e3) (q2.ext0 e3) own3 (t2.trans e3) hf2 h.hbg bf2 bA' fA' (w' := w3) (b := 0)
      refine ptr_in ⟨_, _, _, _, cadd0 b3, ptr_in ⟨w4, hr4, num_c _ ⟨_, rfl, ?_⟩⟩⟩
      rw [show ((parkV s o.name o.now).2 == (parkV s o.name o.now).2) = true by simp]
      exact k w4 G4
  · -- Wake
    refine ptr_in ⟨_, cadd g1.blk rfl, Wake_v g1.hat fun w2 q2 e2 => ⟨rfl, ptr_in ?_⟩⟩
    have B2 := g1.blk.ext e2 h.bf
    have own2 := g1.own.ext e2 (fun b hb hm => h.fA b hm hb)
    have t2 : Ext [] W w2 := Ext.old g1.ext h.hf e2
    have s2 := e2.size
    refine ⟨_, _, _, _, pair_R B2, refWake_c own2 t2.size (by omega) fun A' n' c' w3 e3 own3 hA3 => ⟨_, _, _, _, rfl, ptr_in ?_⟩⟩
    have bA' : bg ∉ ownF A' := fun hm => by
      rcases hA3 _ hm with h1 | h1
      · exact h.bA h1
      · omega
    have fA' : ∀ b ∈ f, b ∉ ownF A' := fun x hx hm => by
      rcases hA3 _ hm with h1 | h1
      · exact h.fA x hx h1
      · have := q2.lt x hx; omega
    obtain ⟨w4, hr4, G4⟩ := Good.mk (B2.ext e3 (by simp)) (q2.ext0 e3) own3 (t2.trans e3) h.hf h.hbg h.bf bA' fA' (w' := w3) (b := 0)
    exact ⟨w4, hr4, k w4 G4⟩
theorem step_c {W w : World} {bg : Nat} (h : Good W w bg) {o : Op} (ho : o.In W) {R : Ending → World → Prop} (k : ∀ w', Good W w' bg → R (.returned (.bool true)) w') :
    Calls Try.prog 29 #[.pointer (some ⟨bg, 0, none⟩), .agg ⟨o.cells⟩] w R := by
  unfold Op.cells
  apply berthlaw25_Pair_step_nf
  intro w1 h1
  obtain ⟨b1, x1⟩ := op_copy (o := o) h1
  have G1 : Good W w1 bg := by
    obtain ⟨s, f, p, B, A, n, c, h⟩ := h
    exact ⟨s, f, p, B, A, n, c, h.ext0 x1⟩
  have Gx : ∀ {w' : World}, Ext [] w1 w' → Good W w' bg := fun e => by
    obtain ⟨s, f, p, B, A, n, c, h⟩ := G1
    exact ⟨s, f, p, B, A, n, c, h.ext0 e⟩
  have ask : Calls Try.prog 30 #[.pointer (some ⟨bg, 0, none⟩)] w1 fun e w' => ∃ b, e = .returned (.bool b) ∧ R (.returned (.bool b)) w' := asks_c G1 fun w' e => ⟨_, rfl, k w' (Gx e)⟩
  have mak : ∃ n10, ∃ s11, ∃ n12, ∃ n13, ∃ A14, ∃ A14l, ∃ A14c, V.cellsC (fun a_ x_ => World.cell? w1 a_ = some x_) ⟨w.heap.size, 0, none⟩ [(Value.int .i64 n10), (Value.string s11), (Value.int .i64 n12), (Value.int .i64 n13), (Value.slice A14 A14l A14c)] ∧
      Calls Try.prog 36 #[(Value.pointer (some ⟨bg, 0, none⟩)), (Value.agg #[(Value.int .i64 n10), (Value.string s11), (Value.int .i64 n12), (Value.int .i64 n13), (Value.slice A14 A14l A14c)])] w1 fun e16 w17 =>
      ∃ b15, e16 = Ending.returned (Value.bool b15) ∧ R (Ending.returned (Value.bool b15)) w17 := ⟨_, _, _, _, _, _, _, cadd0 b1, making_c G1 ho fun w' G => ⟨_, rfl, k w' G⟩⟩
  have chg : ∃ n10, ∃ s11, ∃ n12, ∃ n13, ∃ A14, ∃ A14l, ∃ A14c, V.cellsC (fun a_ x_ => World.cell? w1 a_ = some x_) ⟨w.heap.size, 0, none⟩ [(Value.int .i64 n10), (Value.string s11), (Value.int .i64 n12), (Value.int .i64 n13), (Value.slice A14 A14l A14c)] ∧
      Calls Try.prog 38 #[(Value.pointer (some ⟨bg, 0, none⟩)), (Value.agg #[(Value.int .i64 n10), (Value.string s11), (Value.int .i64 n12), (Value.int .i64 n13), (Value.slice A14 A14l A14c)])] w1 fun e16 w17 =>
      ∃ b15, e16 = Ending.returned (Value.bool b15) ∧ R (Ending.returned (Value.bool b15)) w17 := ⟨_, _, _, _, _, _, _, cadd0 b1, changing_c G1 fun w' G => ⟨_, rfl, k w' G⟩⟩
  have rdy : ∃ S19 : World → Prop, S19 (World.drew w1) ∧
      V.ptr (some ⟨bg, 0, none⟩) fun a21 =>
      ∃ p22, (∀ w20, S19 w20 → World.cell? w20 (Addr.add a21 0) = some (Value.pointer p22)) ∧
      ∃ n23, (∀ w20, S19 w20 → World.cell? w20 (Addr.add ⟨w.heap.size, 0, none⟩ 3) = some (Value.int .i64 n23)) ∧
      Calls Try.prog 20 #[(Value.pointer p22), (Value.int .i64 n23)] (World.drew w1) fun e26 w27 =>
      ∃ s24, ∃ b25, e26 = Ending.returned (Value.tuple #[(Value.string s24), (Value.bool b25)]) ∧
      S19 w27 ∧
      ∃ S28 : World → Prop, S28 (World.drew w27) ∧
      V.ptr (some ⟨bg, 0, none⟩) fun a30 =>
      ∃ A31, ∃ A31l, ∃ A31c, ∃ n32, V.cellsC (fun a_ x_ => ∀ w29, S28 w29 → World.cell? w29 a_ = some x_) (Addr.add a30 1) [(Value.slice A31 A31l A31c), (Value.int .i64 n32)] ∧
      ∃ n33, (∀ w29, S28 w29 → World.cell? w29 (Addr.add ⟨w.heap.size, 0, none⟩ 3) = some (Value.int .i64 n33)) ∧
      Calls Try.prog 37 #[(Value.agg #[(Value.slice A31 A31l A31c), (Value.int .i64 n32)]), (Value.int .i64 n33)] (World.drew w27) fun e36 w37 =>
      ∃ s34, ∃ b35, e36 = Ending.returned (Value.tuple #[(Value.string s34), (Value.bool b35)]) ∧
      S28 w37 ∧
      V.sel (ByteArray.toList s24 == ByteArray.toList s34)
      (R (Ending.returned (Value.bool (b25 == b35))) w37)
      (R (Ending.returned (Value.bool false)) w37) := by
    obtain ⟨s, f, p, B, A, n, c, g⟩ := G1
    have hl := g.own.len
    obtain ⟨m, inv⟩ := g.hat.inv
    have hlen := inv.len
    have d : Ext [] w1 w1.drew := (Ext.refl [] w1).drew
    have bS : ∀ w', Ext [] w1 w' → BlkT w' bg (pr p A n c s.next) 58 := fun w' e => g.blk.ext e (by simp)
    have oS : ∀ w', Ext [] w1 w' → BlkT w' w.heap.size o.cells 31 := fun w' e => b1.ext e (by simp)
    refine ⟨fun w' => Ext [] w1 w', d, ptr_in ⟨_, fun w' e => cadd (bS w' e) rfl, _, fun w' e => cadd (oS w' e) rfl, Ready_c (g.hat.ext0 d) o.now fun w2 e2 => ⟨_, _, rfl, d.trans e2, ?_⟩⟩⟩
    have d2 := (d.trans e2).drew
    refine ⟨fun w' => Ext [] w1 w', d2, ptr_in ⟨_, _, _, _, cellsC_S fun w' e => pair_R (bS w' e), _, fun w' e => cadd (oS w' e) rfl, refReady_c (g.own.ext0 d2).cells hl (by omega) s.next o.now fun w3 e3 => ⟨_, _, rfl, d2.trans e3, sel_true (by simp) ?_⟩⟩⟩
    rw [show ((readyV s.xs o.now).2 == (readyV s.xs o.now).2) = true by simp]
    exact k w3 (Gx (d2.trans e3))
  have c0 : ∃ n, World.cell? w1 (Addr.add ⟨w.heap.size, 0, none⟩ 0) = some (Value.int .i64 n) := ⟨_, cadd b1 rfl⟩
  have end9 : ∃ n48, World.cell? w1 (Addr.add ⟨w.heap.size, 0, none⟩ 0) = some (Value.int .i64 n48) ∧
      V.sel (n48 == 9)
      (Calls Try.prog 30 #[(Value.pointer (some ⟨bg, 0, none⟩))] w1 fun e50 w51 =>
      ∃ b49, e50 = Ending.returned (Value.bool b49) ∧
      R (Ending.returned (Value.bool b49)) w51)
      (R (Ending.returned (Value.bool true)) w1) := ⟨_, cadd b1 rfl, sel_intro (fun _ => ask) (fun _ => k w1 G1)⟩
  refine ⟨_, cadd b1 rfl, sel_intro (fun _ => ⟨_, cadd b1 rfl, sel_intro (fun _ => mak) (fun _ => ⟨_, cadd b1 rfl, sel_intro (fun _ => rdy) (fun _ => ⟨_, cadd b1 rfl, sel_intro (fun _ => ⟨_, cadd b1 rfl, sel_intro (fun _ => chg) (fun _ => end9)⟩) (fun _ => end9)⟩)⟩)⟩) (fun _ => ⟨_, cadd b1 rfl, sel_intro (fun _ => rdy) (fun _ => ⟨_, cadd b1 rfl, sel_intro (fun _ => ⟨_, cadd b1 rfl, sel_intro (fun _ => chg) (fun _ => end9)⟩) (fun _ => end9)⟩)⟩)⟩
theorem queuePlays_c {W : World} {A : Option Addr} {n c : Nat} {ops : List Op} (ho : OpsAt W A n ops) {R : Ending → World → Prop} (k : ∀ w', Ext [] W w' → R (.returned (.bool true)) w') : Calls Try.prog 10 #[.slice A n c] W R := by
  apply berthlaw25_QueuePlays_nf
  have hb := ho.2.2.2
  refine awake_c fun w1 e1 => ⟨_, rfl, sel_false rfl (New_c fun p f w2 e2 q2 hf => ⟨_, rfl, fun w3 h3 => ?_⟩)⟩
  obtain ⟨b3, e3, z3⟩ := box_new (cs := pr p none 0 0 0) h3
  have t3 := (e1.trans e2).trans e3
  have q2lt := q2.lt
  obtain ⟨bg, hbg⟩ : ∃ bg, bg = w2.heap.size := ⟨_, rfl⟩
  rw [← hbg] at b3 ⊢
  have G3 : Good W w3 bg := ⟨⟨[], 0⟩, f, p, w1.heap.size, none, 0, 0, b3, At.ext0 (s := ⟨[], 0⟩) q2 e3, World.ownsRow_nil _ _ _ _, t3, fun b hb => Nat.le_trans e1.size (hf b hb), by rw [hbg]; exact (e1.trans e2).size, fun hm => by have := q2lt _ hm; omega, by simp [ownF], by simp [ownF]⟩
  have Gt : ∀ {w' : World}, Good W w' bg → Ext [] W w' := fun ⟨s, f, p, B, A, n, c, h⟩ => h.ext
  refine ⟨fun t w' => ∃ a : Nat, t = a ∧ a ≤ n ∧ Good W w' bg, fun t _ => n - t.toNat, ⟨0, rfl, by omega, G3⟩, ?_⟩
  rintro _ _ w4 ⟨a, rfl, ha, G4⟩
  refine sel_dec (fun hlt => ?_) (fun hge => asks_c G4 fun w' e => ⟨_, rfl, k w' ((Gt G4).trans e)⟩)
  obtain ⟨o, ad, hoa, rfl, rd⟩ := (ho.ext0 (Gt G4)).read (a := a) (by omega)
  refine when_dec ⟨by omega, by omega⟩ (ptr_in ⟨_, _, _, _, _, _, _, rd, step_c G4 (ho.2.2.1 o (List.mem_of_getElem? hoa)) fun w5 G5 => ⟨_, rfl, sel_false rfl ?_⟩⟩)
  rw [up64 a (by omega)]
  exact ⟨⟨a + 1, rfl, by omega, G5⟩, by simp only [Int.toNat_natCast]; omega⟩
theorem queuePlays_lifted (os : Os) (started : os.Started) (H : Type) (enc : TypeId × Value → H) :
    ReturnsInHanded {} Try.checked os 10 .any (Rows.queuePlaysSpec.pre6 enc Try.prog Try.f10 Rows.queuePlaysRow.domain false) (Rows.queuePlaysSpec.post enc Try.prog Try.f10 false true false false) :=
  lift1 (C := Try.checked) (T := 25) (tb := 4) own (by kernel_rfl) Try.func10 (by kernel_rfl) (by kernel_rfl) Try.underlying4 rfl (fun _ _ => rfl) laidOut (by kernel_rfl) (of_decide_eq_true (by kernel_rfl)) os started H enc
    (fun W base v d p hok h hw => by
      obtain ⟨A, n, c, ops, rfl, ho, hnc⟩ := open_ops hok h hw
      exact queuePlays_c ho fun w' e => ⟨rfl, e.below⟩)
    (ChangeSpec.witness6 (enc := enc) (C := Try.checked) false ⟨#[], #[.slice none 0 0], []⟩ 8 (by kernel_rfl) (by kernel_rfl) (by kernel_rfl) (by kernel_rfl))
theorem queuePlays_holds : Rows.QueuePlaysSaid :=
  OpenClaim.holds_of_wide 10 Try.f10 rfl rfl rfl rfl rfl rfl rfl ⟨rfl, rfl, rfl, rfl, rfl⟩ rfl rfl rfl rfl rfl (by kernel_rfl) Try.func10 (by kernel_rfl)
    (of_decide_eq_true (by kernel_rfl)) (by unfold Func.isWrapper; first | (rw [if_pos (by decide +kernel)]; kernel_rfl) | (rw [if_neg (by decide +kernel)]; exact ⟨rfl, rfl⟩))
    (fun os started H enc _ => queuePlays_lifted os started H enc)
end Go.Proofs.Ytfjgiaimlmnepaa
