/- Slots: a table or nil; Names; what is taken of an iterator; rows compared. -/
import Derived.Test.YtcampkaenlohbaaK8
set_option linter.unusedVariables false
set_option linter.unusedSimpArgs false
namespace Go.Proofs.Ytcampkaenlohbaa
open Go Go.V Go.B

def pv (p : Option Nat) : Value := .pointer (p.map fun b => ⟨b, 0, none⟩)
def TS.nil : TS := ⟨0, [], [], 0⟩
/-- A table, or none. -/
def Tb (w : World) : Option Nat → List Nat → TS → Prop
  | none, f, s => f = [] ∧ s = TS.nil
  | some p, f, s => At w 0 p f s
theorem Tb.ext {F : List Nat} {w w' : World} {p : Option Nat} {f : List Nat} {s : TS} (h : Tb w p f s) (e : Ext F w w') (hF : ∀ b ∈ f, b ∉ F) : Tb w' p f s := by
  cases p with
  | none => exact h
  | some p => exact At.ext h e hF
theorem Tb.ext0 {w w' : World} {p : Option Nat} {f : List Nat} {s : TS} (h : Tb w p f s) (e : Ext [] w w') : Tb w' p f s := h.ext e (by simp)
theorem Tb.lt {w : World} {p : Option Nat} {f : List Nat} {s : TS} (h : Tb w p f s) : ∀ b ∈ f, b < w.heap.size := by
  cases p with
  | none => rw [h.1]; simp
  | some p => exact At.lt h
theorem At.weaken {w : World} {B B' p : Nat} {f : List Nat} {s : TS} (h : At w B p f s) (hB : B' ≤ B) : At w B' p f s := by
  obtain ⟨r, A, n, c, q, i, rfl⟩ := h
  exact ⟨r, A, n, c, ⟨q.hdr, q.own.weaken hB, q.mp, q.hp, q.hr, Nat.le_trans hB q.hB⟩, i, rfl⟩
theorem Tb.len {w : World} {p : Option Nat} {f : List Nat} {s : TS} (h : Tb w p f s) : s.rows.length ≤ 65536 := by
  cases p with
  | none => rw [h.2]; simp [TS.nil]
  | some p =>
    have := (At.inv h).len
    have := (At.inv h).top
    omega
theorem Tb.cnt {w : World} {p : Option Nat} {f : List Nat} {s : TS} (h : Tb w p f s) : s.m.length = s.rows.countP (·.held) := by
  cases p with
  | none => rw [h.2]; rfl
  | some p => exact (At.inv h).cnt
theorem Tb_Len {w : World} {p : Option Nat} {f : List Nat} {s : TS} (h : Tb w p f s) {R : Ending → World → Prop} (k : R (.returned (.int .i64 (s.m.length : Int))) w) : Calls Try.prog 14 #[pv p] w R := by
  cases p with
  | none => rw [h.2] at k; exact nil_Len k
  | some p => exact Len_c h k
theorem Tb_Span {w : World} {p : Option Nat} {f : List Nat} {s : TS} (h : Tb w p f s) {R : Ending → World → Prop} (k : R (.returned (.int .i64 (s.rows.length : Int))) w) : Calls Try.prog 32 #[pv p] w R := by
  cases p with
  | none => rw [h.2] at k; exact nil_Span k
  | some p => exact Span_c h k
theorem Tb_All {w : World} {p : Option Nat} {f : List Nat} {s : TS} (h : Tb w p f s) {R : Ending → World → Prop}
    (k : ∀ b A' c' w', Ext [] w w' → w.heap.size ≤ b → b < w'.heap.size → BlkT w' b [.slice A' s.rows.length c'] 77 → Cells w' A' (RL.flat s.rows) → (∀ g ∈ ownF A', w.heap.size ≤ g ∧ g < w'.heap.size) → R (.returned (.func (.func 41) #[] #[.pointer (some ⟨b, 0, none⟩)])) w') :
    Calls Try.prog 22 #[pv p] w R := by
  cases p with
  | none =>
    rw [h.2] at k
    exact nil_All fun b w' e hb h1 => k b none 0 w' e hb h1.lt h1 (Cells.nil _ _) (by simp [ownF])
  | some p => exact All_c h fun b A' c' w' e hb h1 own _ => k b A' c' w' e hb h1.lt h1 own.cells own.base
def names (xs : List Rw) : List ByteArray := (prs xs).map (·.name)
theorem prs_len (xs : List Rw) : (prs xs).length ≤ xs.length := by
  unfold prs
  rw [prsF_len]
  exact List.countP_le_length
theorem split_len {α : Type} {ys ps rest : List α} {y : α} (h : ys = ps ++ y :: rest) : ps.length < ys.length := by
  rw [h]; simp
theorem u41 : Try.prog.underlying 41 = some (.slice 9) := by kernel_rfl
theorem i9 : (Try.prog.info? 9).map (fun i => (i.zero, i.size, i.bytes)) = some (some (.string ByteArray.empty), 1, 16) := by kernel_rfl
theorem i41s : (Try.prog.info? 41).map (·.size) = some 1 := by kernel_rfl
set_option maxRecDepth 4000 in
theorem Names_c {w : World} {p : Option Nat} {f : List Nat} {s : TS} (h : Tb w p f s) {R : Ending → World → Prop}
    (k : ∀ A n c w', Ext [] w w' → OwnL SL w' w.heap.size 9 A n c (srt (names s.rows)) → R (.returned (.slice A n c)) w') : Calls Try.prog 17 #[pv p] w R := by
  have hlen := h.len
  have hcnt := h.cnt
  have hle : s.m.length ≤ 65536 := by
    have : s.rows.countP (·.held) ≤ s.rows.length := List.countP_le_length
    omega
  apply slots_Table_int__Names_nf
  refine Tb_Len h ⟨_, rfl, when_dec ⟨by omega, by omega, by omega, by omega⟩ fun w5 h5 w6 h6 => ?_⟩
  obtain ⟨b5, x5, z5⟩ := box_new (cs := V.rep (Int.toNat (s.m.length : Int)) [.string ByteArray.empty]) h5
  obtain ⟨b6, x6, z6⟩ := box_new (cs := [.slice none 0 0]) h6
  obtain ⟨w7, hr7, b7, x7⟩ := store1 (P := Try.prog) (v := .slice (some ⟨w.heap.size, 0, none⟩) 0 (Int.toNat (s.m.length : Int))) i41s b6 (i := 0) (by simp) rfl rfl
  have e6 : Ext [] w w6 := x5.trans x6
  have e7 : Ext [] w w7 := e6.trans' x7 (fun b hb => .inr (by simp at hb; omega))
  have s7 := x7.size
  have b57 := (b5.ext0 x6).ext x7 (by simp; omega)
  have own7 : OwnL SL w7 w.heap.size 9 (some ⟨w.heap.size, 0, none⟩) 0 (Int.toNat (s.m.length : Int)) [] := by
    refine own_of b57 (Nat.le_refl _) (Nat.zero_le _) (by simp only [maxLen]; omega) ?_ (by simp [Lay.flat])
    simp [V.rep, SL]
  refine ⟨w7, hr7, Tb_All (h.ext0 e7) fun b A' c' w10 e10 hb hb10 bb cc hg => ⟨_, #[], _, rfl, V.when_intro (by kernel_rfl) fun Rc l w13 hl h13 hy => ?_⟩⟩
  obtain ⟨l0, m0, x13, z13⟩ := enter_new hl h13
  have s10 := e10.size
  have e13 : Ext [] w7 w13 := e10.trans x13
  refine (All_iter (A := A') (b := b) (c := c') (xs := s.rows) rfl hlen).range (I := fun ps w' => Ext [] w w' ∧ w13.heap.size ≤ w'.heap.size ∧ Mrk w' w10.heap.size ∧ (BlkT w' b [.slice A' s.rows.length c'] 77 ∧ Cells w' A' (RL.flat s.rows)) ∧ ∃ A n c, BlkT w' w5.heap.size [.slice A n c] 41 ∧ OwnL SL w' w.heap.size 9 A n c (ps.map (·.name)) ∧ A ≠ none ∧ ∀ g ∈ ownF A, g = w.heap.size ∨ w13.heap.size ≤ g)
    (Q := fun _ _ => False) (fun y W R' h1 h2 => hy y.slot y.name W R' h1 ⟨h1, h2⟩) l0 ⟨e7.trans e13, Nat.le_refl _, m0, ⟨bb.ext0 x13, cc.ext0 x13⟩, _, _, _, b7.ext0 e13, own7.ext0 e13, by simp, by simp [ownF]⟩ ?_ (fun _ _ _ _ h => h.elim) (fun ps w1 h => h.2.2.2.1) ?_ ?_ (fun _ _ _ h => h.elim)
  · rintro ps w1 w2 e ⟨q1, q2, q3, ⟨q4, q5⟩, A, n, c, q6, q7, q8, q9⟩
    refine ⟨q1.trans' e (fun b hb => .inr (by simp at hb; omega)), Nat.le_trans q2 e.size, q3.ext e (by simp; omega), ⟨q4.ext e (by simp; omega), q5.ext e (fun g hg' => by have := hg g hg'; simp; omega)⟩, A, n, c, q6.ext e (by simp; omega), q7.ext e (fun g hg' => by have := q9 g hg'; simp; omega), q8, q9⟩
  · rintro ps y rest W R' hsp hW hS ⟨q1, q2, q3, ⟨q4, q5⟩, A, n, c, q6, q7, q8, q9⟩ k1 k2
    refine ⟨A, n, c, q6.cell (i := 0) rfl, fun w19 h19 => ?_⟩
    obtain ⟨b19, x19, z19⟩ := box_new (cs := SL.enc y.name) h19
    have hn1 : n < 65536 := by
      have h1 := q7.len
      have h2 := split_len hsp
      have h3 := prs_len s.rows
      simp at h1; omega
    obtain ⟨A2, c2, w21, hr, own2, xx, hat⟩ := (q7.ext0 x19).more (P := Try.prog) (t := 41) (ty := 41) (x := y.name) u41 i9 rfl (by omega) b19 (by have := q1.size; omega) (by omega)
    have s21 := xx.size
    have hA : ∀ g ∈ ownF A, g ∉ [w5.heap.size] := fun g hg' => by have := q9 g hg'; simp; omega
    have b21 := (q6.ext0 x19).ext xx (fun hm => by have := q9 _ hm; omega)
    obtain ⟨w22, hr22, b22, x22⟩ := store1 (P := Try.prog) (v := .slice A2 (n + 1) c2) i41s b21 (i := 0) (by simp) rfl rfl
    have hA2 : ∀ g ∈ ownF A2, g = w.heap.size ∨ w13.heap.size ≤ g := fun g hg' => by
      rcases hat with h1 | h1
      · rw [h1] at hg'; exact q9 g hg'
      · rw [h1] at hg'; simp at hg'; omega
    have hl' : ∀ (b : Nat), b ≠ w.heap.size → b < w13.heap.size → b ∉ ownF A := fun b h1 h2 hm => by have := q9 b hm; omega
    refine ⟨A2, n + 1, c2, w21, hr, w22, hr22, ((LoopSt.ext hS x19 (by simp)).ext xx (hl' _ (by omega) (by omega))).ext x22 (by simp; omega), k1 w22 (((LoopSt.ext hS x19 (by simp)).ext xx (hl' _ (by omega) (by omega))).ext x22 (by simp; omega)) ⟨?_, ?_, ?_, ⟨?_, ?_⟩, A2, n + 1, c2, b22, ?_, ?_, hA2⟩⟩
    · exact ((q1.trans x19).trans' xx (fun b hb => .inr (by have := q9 b hb; omega))).trans' x22 (fun b hb => .inr (by simp at hb; omega))
    · have := x22.size; omega
    · exact ((q3.ext x19 (by simp)).ext xx (hl' _ (by omega) (by omega))).ext x22 (by simp; omega)
    · exact ((q4.ext0 x19).ext xx (hl' _ (by omega) (by omega))).ext x22 (by simp; omega)
    · exact ((q5.ext0 x19).ext xx (fun g hg' => hl' g (by have := hg g hg'; omega) (by have := hg g hg'; omega))).ext x22 (fun g hg' => by have := hg g hg'; simp; omega)
    · rw [List.map_append]
      exact own2.ext x22 (fun g hg' => by have := hA2 g hg'; simp; omega)
    · rintro rfl
      rcases hat with h1 | h1
      · cases A with
        | none => exact q8 rfl
        | some a => simp [ownF] at h1
      · simp [ownF] at h1
  · rintro w25 hl25 ⟨q1, q2, q3, ⟨q4, q5⟩, A, n, c, q6, q7, q8, q9⟩
    have x26 := setLoop_ext w25 l Rc .exhausted none
    have hlA : ∀ g ∈ ownF A, g ∉ [l] := fun g hg' => by have := q9 g hg'; simp; omega
    refine .inl ⟨hl25, A, n, c, (q6.ext x26 (by simp; omega)).cell (i := 0) rfl, sort_c (q7.ext x26 hlA) q8 ?_ fun w28 own x28 => ⟨rfl, A, n, c, ((q6.ext x26 (by simp; omega)).ext x28 (fun hm => by have := q9 _ hm; omega)).cell (i := 0) rfl, close_one (((q3.ext x26 (by simp; omega)).ext x28 (fun hm => by have := q9 _ hm; omega))) fun w30 x30 => k A n c w30 ?_ ?_⟩⟩
    · have h1 := q7.len
      have h3 := prs_len s.rows
      simp at h1; omega
    · exact ((q1.trans' x26 (fun b hb => .inr (by simp at hb; omega))).trans' x28 (fun b hb => .inr (by have := q9 b hb; omega))).trans' x30 (fun b hb => .inr (by simp at hb; omega))
    · exact own.ext x30 (fun g hg' => by have := q9 g hg'; simp; omega)
end Go.Proofs.Ytcampkaenlohbaa
