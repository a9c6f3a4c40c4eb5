/- Slots: the tables' world, re-rooted; what stands of an iterator's walk; the frames. -/
import Derived.Test.YtcampkaenlohbaaM20
import Derived.Test.YtcampkaenlohbaaN10
set_option linter.unusedVariables false
set_option linter.unusedSimpArgs false
namespace Go.Proofs.Ytcampkaenlohbaa
open Go Go.V Go.B

/-- The tables stand; the blocks Z are none of theirs. -/
def Tabs (N wb : Nat) (Z : List Nat) (w : World) : Prop := ∃ w0 X Y tag rs, St w0 X Y w wb tag rs 4 ∧ (∀ b ∈ Z, N ≤ b ∧ b < w.heap.size ∧ (tag b = 7 ∨ tag b = 9)) ∧ N ≤ w0.heap.size ∧ ∀ b ∈ X, N ≤ b
/-- All but X turned, and X has nothing of Z. -/
def Fix (N : Nat) (Z : List Nat) (w w' : World) : Prop := ∃ X, Ext X w w' ∧ (∀ b ∈ Z, b ∉ X) ∧ ∀ b ∈ X, N ≤ b
theorem Fix.size {N : Nat} {Z : List Nat} {w w' : World} (h : Fix N Z w w') : w.heap.size ≤ w'.heap.size := by
  obtain ⟨X, e, _⟩ := h
  exact e.size
theorem Fix.of {N : Nat} {Z F : List Nat} {w w' : World} (e : Ext F w w') (h1 : ∀ b ∈ Z, b ∉ F) (h2 : ∀ b ∈ F, N ≤ b) : Fix N Z w w' := ⟨F, e, h1, h2⟩
theorem Ext.wide' {F F' : List Nat} {w w' : World} (e : Ext F w w') (h : ∀ b ∈ F, b ∈ F') : Ext F' w w' := ⟨e.os, e.tape, e.output, e.size, fun q hq hm => e.same q hq fun hb => hm (h q hb)⟩
theorem Fix.trans {N : Nat} {Z : List Nat} {w w1 w2 : World} (h : Fix N Z w w1) (h' : Fix N Z w1 w2) : Fix N Z w w2 := by
  obtain ⟨X, e, h1, h2⟩ := h
  obtain ⟨X', e', h1', h2'⟩ := h'
  refine ⟨X ++ X', (Ext.wide' e (by simp +contextual)).trans (Ext.wide' e' (by simp +contextual)), fun b hb hm => ?_, fun b hb => ?_⟩
  · rcases List.mem_append.1 hm with h | h
    · exact h1 b hb h
    · exact h1' b hb h
  · rcases List.mem_append.1 hb with h | h
    · exact h2 b h
    · exact h2' b h
theorem Fix.refl (N : Nat) (Z : List Nat) (w : World) : Fix N Z w w := ⟨[], Ext.refl _ _, by simp, by simp⟩
theorem Fix.blk {N : Nat} {Z : List Nat} {w w' : World} (h : Fix N Z w w') {b : Nat} {cs : List Value} {T : TypeId} (hb : BlkT w b cs T) (hz : b ∈ Z) : BlkT w' b cs T := by
  obtain ⟨X, e, h1, _⟩ := h
  exact hb.ext e (h1 b hz)
theorem Fix.own {N : Nat} {Z : List Nat} {w w' : World} (h : Fix N Z w w') {α : Type} {L : Lay α} {B n c : Nat} {T : TypeId} {A : Option Addr} {xs : List α} (hb : OwnL L w B T A n c xs) (hz : ∀ b ∈ ownF A, b ∈ Z) : OwnL L w' B T A n c xs := by
  obtain ⟨X, e, h1, _⟩ := h
  exact hb.ext e fun b hb => h1 b (hz b hb)
theorem Fix.cells {N : Nat} {Z : List Nat} {w w' : World} (h : Fix N Z w w') {A : Option Addr} {vs : List Value} (hb : Cells w A vs) (hz : ∀ b ∈ ownF A, b ∈ Z) : Cells w' A vs := by
  obtain ⟨X, e, h1, _⟩ := h
  exact hb.ext e fun b hb => h1 b (hz b hb)
theorem Fix.mrk {N : Nat} {Z : List Nat} {w w' : World} (h : Fix N Z w w') {D : Nat} (hb : Mrk w D) (hz : D ∈ Z) : Mrk w' D := by
  obtain ⟨X, e, h1, _⟩ := h
  exact hb.ext e (h1 D hz)
theorem Fix.loop {N : Nat} {Z : List Nat} {w w' : World} (h : Fix N Z w w') {l : Nat} {Rc : Loop} {s : LoopState} {p : Option Code} (hb : LoopSt w l Rc s p) (hz : l ∈ Z) : LoopSt w' l Rc s p := by
  obtain ⟨X, e, h1, _⟩ := h
  exact LoopSt.ext hb e (h1 l hz)
theorem Fix.old {Z : List Nat} {w0 w w' : World} (h : Fix w0.heap.size Z w w') (e0 : Ext [] w0 w) : Ext [] w0 w' := by
  obtain ⟨X, e, _, h2⟩ := h
  exact e0.trans' e fun b hb => .inr (h2 b hb)
section
variable {N wb : Nat} {Z : List Nat} {w w' : World}
theorem Tabs.z (h : Tabs N wb Z w) : ∀ b ∈ Z, N ≤ b ∧ b < w.heap.size := by
  obtain ⟨w0, X, Y, tag, rs, st, hz, _⟩ := h
  exact fun b hb => ⟨(hz b hb).1, (hz b hb).2.1⟩
theorem Tabs.root (h : Tabs N wb Z w) : ∃ X Y tag rs, St w X Y w wb tag rs 4 ∧ (∀ b ∈ Z, N ≤ b ∧ b < w.heap.size ∧ b ∉ X ∧ b ∉ Y) ∧ ∀ b ∈ X, N ≤ b := by
  obtain ⟨w0, X, Y, tag, rs, st, hz, hN, hX⟩ := h
  have s0 := st.e.size
  have hown : ∀ b, (tag b < 4 ∨ tag b = 5) → N ≤ b := fun b hb => by
    rcases st.own (b := b) (by omega) with h1 | h1
    · exact hX b h1
    · omega
  refine ⟨(List.range w.heap.size).filter fun b => decide (tag b < 4 ∨ tag b = 5), (List.range w.heap.size).filter fun b => decide (tag b = 6), fun b => if tag b < 4 ∨ tag b = 5 ∨ tag b = 6 then tag b else 9, rs, ⟨Ext.refl _ _, st.len, st.blk, ?_, fun b hb hbX => ?_, fun i r hi hr => ?_⟩, fun b hb => ?_, fun b hb => ?_⟩
  · have := st.hwb
    show (if _ then _ else _) = 5
    rw [if_pos (by omega)]; exact this
  · simp only [List.mem_filter, List.mem_range, decide_eq_true_eq, not_and] at hbX
    have h1 := hbX hb
    by_cases h6 : tag b = 6
    · right
      refine ⟨?_, by simp [hb, h6]⟩
      show (if _ then _ else _) = 6
      rw [if_pos (by omega)]; exact h6
    · left
      show (if _ then _ else _) = 9
      rw [if_neg (by omega)]
  · have hi4 : i < 4 := by have := (List.getElem?_eq_some_iff.1 hr).1; have := st.len; omega
    have h1 := st.regs i r hi hr
    refine ⟨h1.t, fun b hb => ?_, h1.d, fun hn b hb => ?_⟩
    · have := h1.tt b hb
      show (if _ then _ else _) = i
      rw [if_pos (by omega)]; exact this
    · have := h1.dd hn b hb
      show (if _ then _ else _) = 6
      rw [if_pos (by omega)]; exact this
  · obtain ⟨h1, h2, h3⟩ := hz b hb
    refine ⟨h1, h2, fun hm => ?_, fun hm => ?_⟩
    · simp only [List.mem_filter, decide_eq_true_eq] at hm
      omega
    · simp only [List.mem_filter, decide_eq_true_eq] at hm
      omega
  · simp only [List.mem_filter, decide_eq_true_eq] at hb
    exact hown b hb.2
theorem Tabs.step (h : Tabs N wb Z w) (o : Op) {R : Ending → World → Prop} (k : ∀ w', Fix N Z w w' → Tabs N wb Z w' → R (.returned (.bool true)) w') :
    Calls Try.prog 20 #[.pointer (some ⟨wb, 0, none⟩), .agg ⟨o.cells⟩] w R := by
  have h0 := h
  obtain ⟨X, Y, tag, rs, st, hz, hX⟩ := h.root
  refine step_c st o fun w' tag' rs' st' => k w' ⟨X, st'.e, fun b hb => (hz b hb).2.2.1, hX⟩ ⟨w, X, Y, tag', rs', st', fun b hb => ?_, ?_, hX⟩
  · obtain ⟨h1, h2, h3, h4⟩ := hz b hb
    have := st'.e.size
    refine ⟨h1, by omega, ?_⟩
    rcases st'.old b h2 h3 with h5 | h5
    · exact .inr h5
    · exact absurd h5.2 h4
  · obtain ⟨w0, X, Y, tag, rs, st, _, hN, _⟩ := h0
    have := st.e.size
    omega
theorem Tabs.ext (h : Tabs N wb Z w) {F : List Nat} (e : Ext F w w') (hF : ∀ b ∈ F, w.heap.size ≤ b ∨ b ∈ Z) {Z' : List Nat} (hZ : ∀ b ∈ Z', b ∈ Z ∨ (w.heap.size ≤ b ∧ b < w'.heap.size)) : Tabs N wb Z' w' := by
  have hN : N ≤ w.heap.size := by
    obtain ⟨w0, X, Y, tag, rs, st, _, hN, _⟩ := h
    have := st.e.size
    omega
  have s1 := e.size
  obtain ⟨X, Y, tag, rs, st, hz, hX⟩ := h.root
  have h9 : ∀ b ∈ Z, tag b = 9 := fun b hb => by
    obtain ⟨h1, h2, h3, h4⟩ := hz b hb
    rcases st.old b h2 h3 with h5 | h5
    · exact h5
    · exact absurd h5.2 h4
  have st2 : St w (X ++ Z) Y w wb (fun b => if b ∈ Z then 7 else tag b) rs 4 := by
    refine ⟨Ext.refl _ _, st.len, st.blk, ?_, fun b hb hbX => ?_, fun i r hi hr => ?_⟩
    · have := st.hwb
      show (if _ then _ else _) = 5
      rw [if_neg (fun hm => by have := h9 _ hm; omega)]; exact this
    · simp only [List.mem_append, not_or] at hbX
      show (if _ then _ else _) = 9 ∨ ((if _ then _ else _) = 6 ∧ _)
      rw [if_neg hbX.2]
      exact st.old b hb hbX.1
    · have hi4 : i < 4 := by have := (List.getElem?_eq_some_iff.1 hr).1; have := st.len; omega
      have h1 := st.regs i r hi hr
      refine ⟨h1.t, fun b hb => ?_, h1.d, fun hn b hb => ?_⟩
      · have := h1.tt b hb
        show (if _ then _ else _) = i
        rw [if_neg (fun hm => by have := h9 _ hm; omega)]; exact this
      · have := h1.dd hn b hb
        show (if _ then _ else _) = 6
        rw [if_neg (fun hm => by have := h9 _ hm; omega)]; exact this
  have st3 := st2.ext (k := 7) e fun b hb => by
    rcases hF b hb with h1 | h1
    · exact .inl h1
    · exact .inr (.inr (if_pos h1))
  refine ⟨w, X ++ Z, Y, _, rs, st3, fun b hb => ?_, hN, fun b hb => ?_⟩
  · rcases hZ b hb with h1 | ⟨h1, h2⟩
    · have h3 := hz b h1
      refine ⟨h3.1, by omega, .inl ?_⟩
      rw [newtag_old h3.2.1]
      exact if_pos h1
    · refine ⟨by omega, h2, .inl ?_⟩
      rw [newtag_new h1]
  · rcases List.mem_append.1 hb with h1 | h1
    · exact hX b h1
    · exact (hz b h1).1
end
/-- What does not turn: the boxes, the iterator's rows, the document's rows. -/
structure Wc where
  ba : Nat
  be : Nat
  br : Nat
  bw : Nat
  wb : Nat
  fb : Nat
  gb : Nat
  cb : Nat
  ct : Nat
  A2 : Option Addr
  n2 : Nat
  c2 : Nat
  early : Int
  CA : Option Addr
  cc : Nat
  rows : List Rw
  WA : Option Addr
  wn : Nat
  wcap : Nat
  ops : List Op
def Zc (K : Wc) : List Nat := [K.ba, K.be, K.br, K.bw, K.fb, K.gb, K.cb] ++ ownF K.CA ++ ownF K.WA
structure Sx (K : Wc) (w : World) : Prop where
  a : BlkT w K.ba [.slice K.A2 K.n2 K.c2] 23
  e : BlkT w K.be [.int .i64 K.early] 3
  r : BlkT w K.br [.bool false] 4
  bx : BlkT w K.bw [.pointer (some ⟨K.wb, 0, none⟩)] 46
  f : BlkT w K.fb [.func (.func 41) #[] #[.pointer (some ⟨K.cb, 0, none⟩)]] 59
  g : BlkT w K.gb [.slice K.WA K.wn K.wcap] 52
  c : BlkT w K.cb [.slice K.CA K.rows.length K.cc] 77
  cr : Cells w K.CA (RL.flat K.rows)
  wr : Cells w K.WA (DL.flat (drs K.rows))
theorem Sx.ext {K : Wc} {w w' : World} {F : List Nat} (h : Sx K w) (e : Ext F w w') (hF : ∀ b ∈ Zc K, b ∉ F) : Sx K w' :=
  ⟨h.a.ext e (hF _ (by simp [Zc])), h.e.ext e (hF _ (by simp [Zc])), h.r.ext e (hF _ (by simp [Zc])), h.bx.ext e (hF _ (by simp [Zc])), h.f.ext e (hF _ (by simp [Zc])), h.g.ext e (hF _ (by simp [Zc])), h.c.ext e (hF _ (by simp [Zc])), h.cr.ext e (fun b hb => hF _ (by simp [Zc, hb])), h.wr.ext e (fun b hb => hF _ (by simp [Zc, hb]))⟩
theorem Sx.fix {K : Wc} {w w' : World} {N : Nat} {Z : List Nat} (h : Sx K w) (e : Fix N Z w w') (hZ : ∀ b ∈ Zc K, b ∈ Z) : Sx K w' := by
  obtain ⟨X, e, h1, _⟩ := e
  exact h.ext e fun b hb => h1 b (hZ b hb)
/-- Facts of the law as a whole. -/
structure Wf (w0 : World) (K : Wc) : Prop where
  ops : OpsAt w0 K.A2 K.n2 K.ops
  wlen : (drs K.rows).length = K.wn
  wle : K.wn ≤ 65536
  rle : K.rows.length ≤ 65536
  cz : K.ct ∉ Zc K
structure Wv (w0 : World) (K : Wc) (w : World) (Z : List Nat) (a : Nat) : Prop where
  e : Ext [] w0 w
  t : Tabs w0.heap.size K.wb Z w
  zc : ∀ b ∈ Zc K, b ∈ Z
  s : Sx K w
  ct : BlkT w K.ct [.int .i64 (a : Int)] 3
  cz : K.ct ∈ Z
  ha : a ≤ K.n2
theorem Wv.turn {w0 w w' : World} {K : Wc} {Z Z' : List Nat} {a : Nat} (h : Wv w0 K w Z a) {F : List Nat} (e : Ext F w w') (hF : ∀ b ∈ F, w.heap.size ≤ b ∨ (b ∈ Z ∧ b ∉ Zc K ∧ b ≠ K.ct)) (hZ : ∀ b ∈ Z', b ∈ Z ∨ (w.heap.size ≤ b ∧ b < w'.heap.size)) (h1 : ∀ b ∈ Zc K, b ∈ Z') (h2 : K.ct ∈ Z') : Wv w0 K w' Z' a := by
  have s0 := h.e.size
  have hz := h.t.z
  refine ⟨h.e.trans' e fun b hb => .inr ?_, h.t.ext e (fun b hb => ?_) hZ, h1, h.s.ext e fun b hb hm => ?_, h.ct.ext e fun hm => ?_, h2, h.ha⟩
  · rcases hF b hb with h3 | h3
    · omega
    · exact (hz b h3.1).1
  · rcases hF b hb with h3 | h3
    · exact .inl h3
    · exact .inr h3.1
  · rcases hF b hm with h3 | h3
    · have := (hz b (h.zc b hb)).2; omega
    · exact h3.2.1 hb
  · rcases hF _ hm with h3 | h3
    · have := (hz _ h.cz).2; omega
    · exact h3.2.2 rfl
theorem Wv.step {w0 w : World} {K : Wc} {Z : List Nat} {a : Nat} (h : Wv w0 K w Z a) (o : Op) {R : Ending → World → Prop} (k : ∀ w', Fix w0.heap.size Z w w' → Wv w0 K w' Z a → R (.returned (.bool true)) w') :
    Calls Try.prog 20 #[.pointer (some ⟨K.wb, 0, none⟩), .agg ⟨o.cells⟩] w R :=
  h.t.step o fun w' hf ht => k w' hf ⟨hf.old h.e, ht, h.zc, h.s.fix hf h.zc, hf.blk h.ct h.cz, h.cz, h.ha⟩
/-- One step further in the list. -/
theorem Wv.inc {w0 w w' : World} {K : Wc} {Z : List Nat} {a : Nat} (h : Wv w0 K w Z a) (hw : Wf w0 K) (ha : a + 1 ≤ K.n2) (x : Ext [K.ct] w w') (b : BlkT w' K.ct [.int .i64 ((a + 1 : Nat) : Int)] 3) : Wv w0 K w' Z (a + 1) := by
  have hz := h.t.z
  have s1 := x.size
  refine ⟨h.e.trans' x fun b hb => .inr ?_, h.t.ext x (fun b hb => .inr ?_) (fun b hb => .inl hb), h.zc, h.s.ext x fun b hb hm => ?_, b, h.cz, ha⟩
  · rw [List.mem_singleton.1 hb]; exact (hz _ h.cz).1
  · rw [List.mem_singleton.1 hb]; exact h.cz
  · exact hw.cz (List.mem_singleton.1 hm ▸ hb)
def muC (K : Wc) (w : World) : Nat := match w.cell? ⟨K.ct, 0, none⟩ with
  | some (.int _ v) => K.n2 - v.toNat
  | _ => 0
theorem muC_at {K : Wc} {w : World} {a : Nat} (h : BlkT w K.ct [.int .i64 (a : Int)] 3) : muC K w = K.n2 - a := by
  have h3 := h.cell (i := 0) rfl
  unfold muC
  rw [h3]
  simp
end Go.Proofs.Ytcampkaenlohbaa
