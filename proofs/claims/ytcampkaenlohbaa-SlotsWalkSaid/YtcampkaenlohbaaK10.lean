/- Slots: what is taken of an iterator; rows compared. -/
import Derived.Test.YtcampkaenlohbaaK9
set_option linter.unusedVariables false
set_option linter.unusedSimpArgs false
namespace Go.Proofs.Ytcampkaenlohbaa
open Go Go.V Go.B

def PL : Lay Pr := ⟨Pr.out, 2, fun _ => rfl, fun x v hv => by
  simp only [Pr.out, List.mem_cons, List.not_mem_nil, or_false] at hv
  rcases hv with rfl | rfl <;> rfl, by omega⟩
theorem u62 : Try.prog.underlying 62 = some (.slice 64) := by kernel_rfl
theorem i64 : (Try.prog.info? 64).map (fun i => (i.zero, i.size, i.bytes)) = some (some (.agg #[.int .i64 0, .string ByteArray.empty]), 2, 24) := by kernel_rfl
theorem i62s : (Try.prog.info? 62).map (·.size) = some 1 := by kernel_rfl
set_option maxRecDepth 4000 in
theorem taken_c {w : World} {p : Option Nat} {f : List Nat} {s : TS} (h : Tb w p f s) (m : Int) {R : Ending → World → Prop}
    (k : ∀ A n c w', Ext [] w w' → OwnL PL w' w.heap.size 64 A n c ((prs s.rows).take m.toNat) → R (.returned (.slice A n c)) w') : Calls Try.prog 38 #[pv p, .int .i64 m] w R := by
  have hlen := h.len
  have hpl := prs_len s.rows
  apply berthlaw05_taken_int__nf
  intro w3 h3 w4 h4 w5 h5
  obtain ⟨b3, x3, z3⟩ := box_new (cs := [.int .i64 m]) h3
  obtain ⟨b4, x4, z4⟩ := box_new (cs := []) h4
  obtain ⟨b5, x5, z5⟩ := box_new (cs := [.slice none 0 0]) h5
  obtain ⟨w6, hr6, b6, x6⟩ := store1 (P := Try.prog) (v := .slice (some ⟨w3.heap.size, 0, none⟩) 0 0) i62s b5 (i := 0) (by simp) rfl rfl
  have e6 : Ext [] w w6 := ((x3.trans x4).trans x5).trans' x6 (fun b hb => .inr (by simp at hb; omega))
  have s6 := x6.size
  have bm6 : BlkT w6 w.heap.size [.int .i64 m] 3 := ((b3.ext0 x4).ext0 x5).ext x6 (by simp; omega)
  have own6 : OwnL PL w6 w.heap.size 64 (some ⟨w3.heap.size, 0, none⟩) 0 0 [] := by
    refine own_of ((b4.ext0 x5).ext x6 (by simp; omega)) (by omega) (Nat.zero_le _) (by simp only [maxLen]; omega) ?_ (by simp [Lay.flat])
    simp
  refine ⟨w6, hr6, _, bm6.cell (i := 0) rfl, sel_dec (fun hm => ?_) (fun hm => ?_)⟩
  · refine ⟨_, _, _, b6.cell (i := 0) rfl, k _ _ _ w6 e6 ?_⟩
    rw [show m.toNat = 0 by omega]; simpa using own6
  refine Tb_All (h.ext0 e6) fun b A' c' w10 e10 hb hb10 bb cc hg => ⟨_, #[], _, rfl, V.when_intro (by kernel_rfl) fun Rc l w13 hl h13 hy => ?_⟩
  obtain ⟨l0, m0, x13, z13⟩ := enter_new hl h13
  have s10 := e10.size
  have e13 : Ext [] w6 w13 := e10.trans x13
  refine (All_iter (A := A') (b := b) (c := c') (xs := s.rows) rfl hlen).range (I := fun ps w' => Ext [] w w' ∧ w13.heap.size ≤ w'.heap.size ∧ Mrk w' w10.heap.size ∧ (BlkT w' b [.slice A' s.rows.length c'] 77 ∧ Cells w' A' (RL.flat s.rows)) ∧ BlkT w' w.heap.size [.int .i64 m] 3 ∧ (ps.length : Int) < m ∧ ∃ A n c, BlkT w' w4.heap.size [.slice A n c] 62 ∧ OwnL PL w' w.heap.size 64 A n c ps ∧ ∀ g ∈ ownF A, g = w3.heap.size ∨ w13.heap.size ≤ g)
    (Q := fun p w' => p = .exit 0 ∧ Ext [] w w' ∧ w13.heap.size ≤ w'.heap.size ∧ Mrk w' w10.heap.size ∧ ∃ A n c, BlkT w' w4.heap.size [.slice A n c] 62 ∧ OwnL PL w' w.heap.size 64 A n c ((prs s.rows).take m.toNat) ∧ ∀ g ∈ ownF A, g = w3.heap.size ∨ w13.heap.size ≤ g)
    (fun y W R' h1 h2 => hy y.slot y.name W R' h1 ⟨h1, h2⟩) l0 ⟨e6.trans e13, Nat.le_refl _, m0, ⟨bb.ext0 x13, cc.ext0 x13⟩, bm6.ext0 e13, by simp; omega, _, _, _, b6.ext0 e13, own6.ext0 e13, by simp [ownF]⟩ ?_ ?_ (fun ps w1 h => h.2.2.2.1) ?_ ?_ ?_
  · rintro ps w1 w2 e ⟨q1, q2, q3, ⟨q4, q5⟩, q10, q11, A, n, c, q6, q7, q9⟩
    exact ⟨q1.trans' e (fun b hb => .inr (by simp at hb; omega)), Nat.le_trans q2 e.size, q3.ext e (by simp; omega), ⟨q4.ext e (by simp; omega), q5.ext e (fun g hg' => by have := hg g hg'; simp; omega)⟩, q10.ext e (by simp; omega), q11, A, n, c, q6.ext e (by simp; omega), q7.ext e (fun g hg' => by have := q9 g hg'; simp; omega), q9⟩
  · rintro p w1 w2 e ⟨q0, q1, q2, q3, A, n, c, q6, q7, q9⟩
    exact ⟨q0, q1.trans' e (fun b hb => .inr (by simp at hb; omega)), Nat.le_trans q2 e.size, q3.ext e (by simp; omega), A, n, c, q6.ext e (by simp; omega), q7.ext e (fun g hg' => by have := q9 g hg'; simp; omega), q9⟩
  · rintro ps y rest W R' hsp hW hS ⟨q1, q2, q3, ⟨q4, q5⟩, q10, q11, A, n, c, q6, q7, q9⟩ k1 k2
    refine ⟨A, n, c, q6.cell (i := 0) rfl, fun w19 h19 => ?_⟩
    obtain ⟨b19, x19, z19⟩ := box_new (cs := PL.enc y) h19
    have hnl := q7.len
    have hn1 : n < 65536 := by
      have h2 := split_len hsp
      omega
    obtain ⟨A2, c2, w21, hr, own2, xx, hat⟩ := (q7.ext0 x19).more (P := Try.prog) (t := 62) (ty := 62) (x := y) u62 i64 rfl (by omega) b19 (by have := q1.size; omega) (by omega)
    have s21 := xx.size
    have b21 := (q6.ext0 x19).ext xx (fun hm => by have := q9 _ hm; omega)
    obtain ⟨w22, hr22, b22, x22⟩ := store1 (P := Try.prog) (v := .slice A2 (n + 1) c2) i62s b21 (i := 0) (by simp) rfl rfl
    have hA2 : ∀ g ∈ ownF A2, g = w3.heap.size ∨ w13.heap.size ≤ g := fun g hg' => by
      rcases hat with h1 | h1
      · rw [h1] at hg'; exact q9 g hg'
      · rw [h1] at hg'; simp at hg'; omega
    have hl' : ∀ (b : Nat), b ≠ w3.heap.size → b < w13.heap.size → b ∉ ownF A := fun b h1 h2 hm => by have := q9 b hm; omega
    have hS2 := ((LoopSt.ext hS x19 (by simp)).ext xx (hl' _ (by omega) (by omega))).ext x22 (by simp; omega)
    have f1 : Ext [] w w22 := ((q1.trans x19).trans' xx (fun b hb => .inr (by have := q9 b hb; omega))).trans' x22 (fun b hb => .inr (by simp at hb; omega))
    have f2 : w13.heap.size ≤ w22.heap.size := by have := x22.size; omega
    have f3 : Mrk w22 w10.heap.size := ((q3.ext x19 (by simp)).ext xx (hl' _ (by omega) (by omega))).ext x22 (by simp; omega)
    have f4 := ((q4.ext0 x19).ext xx (hl' _ (by omega) (by omega))).ext x22 (by simp; omega)
    have f5 := ((q5.ext0 x19).ext xx (fun g hg' => hl' g (by have := hg g hg'; omega) (by have := hg g hg'; omega))).ext x22 (fun g hg' => by have := hg g hg'; simp; omega)
    have f6 : BlkT w22 w.heap.size [.int .i64 m] 3 := ((q10.ext0 x19).ext xx (hl' _ (by omega) (by omega))).ext x22 (by simp; omega)
    have f7 := own2.ext x22 (fun g hg' => by have := hA2 g hg'; simp; omega)
    refine ⟨A2, n + 1, c2, w21, hr, w22, hr22, _, _, _, b22.cell (i := 0) rfl, m, f6.cell (i := 0) rfl, sel_dec (fun hd => ⟨hS2, ?_⟩) (fun hd => ⟨hS2, ?_⟩)⟩
    · refine k2 w22 (.exit 0) hS2 ⟨rfl, f1, f2, f3, A2, n + 1, c2, b22, ?_, hA2⟩
      have e1 : (prs s.rows).take m.toNat = ps ++ [y] := by
        rw [hsp, show m.toNat = (ps ++ [y]).length by simp; omega, show ps ++ y :: rest = (ps ++ [y]) ++ rest by simp]
        exact List.take_left
      rw [e1]; exact f7
    · exact k1 w22 hS2 ⟨f1, f2, f3, ⟨f4, f5⟩, f6, by simp; omega, A2, n + 1, c2, b22, f7, hA2⟩
  · rintro w25 hl25 ⟨q1, q2, q3, ⟨q4, q5⟩, q10, q11, A, n, c, q6, q7, q9⟩
    have x26 := setLoop_ext w25 l Rc .exhausted none
    refine .inl ⟨hl25, A, n, c, (q6.ext x26 (by simp; omega)).cell (i := 0) rfl, close_one (q3.ext x26 (by simp; omega)) fun w30 x30 => k A n c w30 ?_ ?_⟩
    · exact (q1.trans' x26 (fun b hb => .inr (by simp at hb; omega))).trans' x30 (fun b hb => .inr (by simp at hb; omega))
    · rw [List.take_of_length_le (by omega)]
      exact (q7.ext x26 (fun g hg' => by have := q9 g hg'; simp; omega)).ext x30 (fun g hg' => by have := q9 g hg'; simp; omega)
  · rintro w25 p hl25 ⟨rfl, q1, q2, q3, A, n, c, q6, q7, q9⟩
    have x26 := setLoop_ext w25 l Rc .exhausted (some (.exit 0))
    refine .inr (.inl ⟨hl25, A, n, c, (q6.ext x26 (by simp; omega)).cell (i := 0) rfl, close_one (q3.ext x26 (by simp; omega)) fun w30 x30 => k A n c w30 ?_ ?_⟩)
    · exact (q1.trans' x26 (fun b hb => .inr (by simp at hb; omega))).trans' x30 (fun b hb => .inr (by simp at hb; omega))
    · exact (q7.ext x26 (fun g hg' => by have := q9 g hg'; simp; omega)).ext x30 (fun g hg' => by have := q9 g hg'; simp; omega)
/-- The slot and the name of a row of the document's. -/
def DR.pr (d : DR) : Pr := ⟨d.slot, d.name⟩
theorem rowsAre_c {w : World} {A A' : Option Addr} {n n' c c' : Nat} {xs : List Pr} {ds : List DR} (m : Int) (hx : Cells w A (PL.flat xs)) (hn : xs.length = n) (hy : Cells w A' (DL.flat ds)) (hn' : ds.length = n') (hb : n' ≤ 65536) (he : xs = (ds.map DR.pr).take m.toNat) {R : Ending → World → Prop}
    (k1 : ∀ w', Ext [] w w' → R (.returned (.bool true)) w') : Calls Try.prog 24 #[.slice A n c, .slice A' n' c', .int .i64 m] w R := by
  apply berthlaw05_rowsAre_nf
  have hxl : n = min m.toNat n' := by rw [← hn, he]; simp [hn']
  refine sel_false ?_ ?_
  · have : ((n : Nat) : Int) = (if (if ((n' : Nat) : Int) < m then ((n' : Nat) : Int) else m) > 0 then (if ((n' : Nat) : Int) < m then ((n' : Nat) : Int) else m) else 0) := by
      subst hxl
      split <;> split <;> omega
    rw [← this]; simp
  refine ⟨fun t w' => ∃ a : Nat, t = a ∧ a ≤ n ∧ Ext [] w w', fun t _ => n - t.toNat, ⟨0, rfl, by omega, Ext.refl _ _⟩, ?_⟩
  rintro _ _ w1 ⟨a, rfl, ha, e1⟩
  refine sel_dec (fun hlt => ?_) (fun hge => k1 w1 e1)
  obtain ⟨x, ad, hxx, rfl, rx⟩ := (hx.ext0 e1).row hn (a := a) (by omega)
  obtain ⟨y, ad', hyy, rfl, ry⟩ := (hy.ext0 e1).row hn' (a := a) (by omega)
  have hxy : x = y.pr := by
    rw [he, List.getElem?_take, if_pos (by omega), List.getElem?_map, hyy] at hxx
    simp at hxx; exact hxx.symm
  subst hxy
  refine when_dec ⟨by omega, by omega⟩ (ptr_in ⟨_, rx 0 _ rfl, when_dec ⟨by omega, by omega⟩ (ptr_in ⟨_, ry 0 _ rfl, sel_false (by simp [DR.pr]) (when_dec ⟨by omega, by omega⟩ (ptr_in ⟨_, rx 1 _ rfl, when_dec ⟨by omega, by omega⟩ (ptr_in ⟨_, ry 1 _ rfl, sel_false (by simp [DR.pr]) ?_⟩)⟩))⟩)⟩)
  rw [up64 a (by omega)]
  exact ⟨⟨a + 1, rfl, by omega, e1.drew⟩, by simp only [Int.toNat_natCast]; omega⟩
end Go.Proofs.Ytcampkaenlohbaa
