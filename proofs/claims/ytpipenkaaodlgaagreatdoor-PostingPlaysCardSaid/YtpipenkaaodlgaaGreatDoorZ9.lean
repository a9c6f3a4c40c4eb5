/- Posting: Same. -/
import Derived.Test.YtpipenkaaodlgaaGreatDoorZ8
import Derived.Test.YtpipenkaaodlgaaGreatDoorSa
set_option linter.unusedVariables false
set_option linter.unusedSimpArgs false
namespace Go.Proofs.YtpipenkaaodlgaaGreatDoor
open Go Go.V Go.B Go.Sort

theorem teq (a b : ByteArray) : (ByteArray.toList a == ByteArray.toList b) = decide (a = b) := by
  rw [ByteArray.toList_eq, ByteArray.toList_eq]
  obtain ⟨⟨x⟩⟩ := a
  obtain ⟨⟨y⟩⟩ := b
  rw [Bool.eq_iff_iff]
  simp
theorem EqualL_c {w : World} {A A' : Option Addr} {n n' c c' : Nat} {xs ys : List Lab} (hx : Cells w A (LbL.flat xs)) (hn : xs.length = n) (hy : Cells w A' (LbL.flat ys)) (hn' : ys.length = n') (hb : n < 4611686018427387904) {R : Ending → World → Prop}
    (k : ∀ w', Ext [] w w' → R (.returned (.bool (decide (xs = ys)))) w') : Calls Tryz.prog 38 #[.slice A n c, .slice A' n' c'] w R := by
  apply slices_Equal___api_Label_api_Label__nf
  refine sel_intro (fun h => ?_) (fun h => ?_)
  · have h : n ≠ n' := fun e => by rw [e] at h; simp at h
    have := k w (Ext.refl _ _)
    rw [decide_eq_false (fun e => h (by rw [← hn, ← hn', e]))] at this
    exact this
  have h : n = n' := by
    have h : ((n : Nat) : Int) = ((n' : Nat) : Int) := by simpa using h
    omega
  subst h
  refine ⟨fun t w' => ∃ a : Nat, t = a ∧ a ≤ n ∧ Ext [] w w' ∧ xs.take a = ys.take a, fun t _ => n - t.toNat, ⟨0, rfl, by omega, Ext.refl _ _, rfl⟩, ?_⟩
  rintro _ _ w1 ⟨a, rfl, ha, e1, he⟩
  refine sel_dec (fun hlt => ?_) (fun hge => ?_)
  · obtain ⟨x, ad, hxx, rfl, rx⟩ := Cells.row (L := LbL) (hx.ext0 e1) hn (a := a) (by omega)
    obtain ⟨y, ad', hyy, rfl, ry⟩ := Cells.row (L := LbL) (hy.ext0 e1) hn' (a := a) (by omega)
    refine when_dec ⟨by omega, by omega⟩ (ptr_in ⟨x.1, x.2, rx, when_dec ⟨by omega, by omega⟩ (ptr_in ⟨y.1, y.2, ry, ?_⟩)⟩)
    rw [teq, teq, Bool.and_true]
    refine sel_intro (fun h => ?_) (fun h => ?_)
    · have h : x ≠ y := fun e => by subst e; simp at h
      have := k w1.drew e1.drew
      rw [decide_eq_false (fun e => h (by rw [e, hyy] at hxx; injection hxx with e2; exact e2.symm))] at this
      exact this
    · have h : x = y := by
        have h := nf_ (b := !(decide (x.1 = y.1) && decide (x.2 = y.2))) (by rw [h]; rfl)
        have h := nt_ h
        simp at h
        exact Prod.ext h.1 h.2
      rw [up64 a (by omega)]
      exact ⟨⟨a + 1, rfl, by omega, e1.drew, by rw [snoc_at hxx, snoc_at hyy, he, h]⟩, by simp only [Int.toNat_natCast]; omega⟩
  · have : a = n := by omega
    subst this
    rw [List.take_of_length_le (by omega), List.take_of_length_le (by omega)] at he
    have := k w1 e1
    rw [decide_eq_true he] at this
    exact this
theorem PxV.len {w : World} {q : Option Addr} {x : Px} (h : PxV w q x) (i : Int) : ((x.lab i).getD []).length ≤ 32 := by
  cases hl : x.lab i with
  | none => simp
  | some l => exact (h.ok.lab _ _ hl).1.len
set_option maxRecDepth 4000 in
theorem Same_c {w : World} {qa qb : Option Addr} {a b : Px} (ha : PxV w qa a) (hb : PxV w qb b) {R : Ending → World → Prop}
    (k : ∀ (t : Bool) w', Ext [] w w' → (t = true ↔ ∀ i, a.lab i = b.lab i) → R (.returned (.bool t)) w') :
    Calls Tryz.prog 16 #[.pointer qa, .pointer qb] w R := by
  apply posting_Same_nf
  intro w3 h3 w4 h4 w5 h5
  obtain ⟨b3, x3, z3⟩ := box_new (cs := [.pointer qa]) h3
  obtain ⟨b4, x4, z4⟩ := box_new (cs := [.pointer qb]) h4
  obtain ⟨b5, x5, z5⟩ := box_new (cs := [.bool false]) h5
  have x6 : Ext [] w5 w5.drew := (Ext.refl _ _).drew
  have z6 : w5.drew.heap.size = w5.heap.size := rfl
  have ba6 := ((b3.ext0 x4).ext0 x5).ext0 x6
  have bb6 := (b4.ext0 x5).ext0 x6
  have bt6 := b5.ext0 x6
  have e6 : Ext [] w w5.drew := ((x3.trans x4).trans x5).trans x6
  generalize w5.drew = w6 at x6 z6 ba6 bb6 bt6 e6 ⊢
  have ha6 := ha.ext0 e6
  have hb6 := hb.ext0 e6
  refine ⟨fun w' => Ext [] w6 w', Ext.refl _ _, _, fun w' e => (ba6.ext0 e).cell (i := 0) rfl, _, fun w' e => (bb6.ext0 e).cell (i := 0) rfl, ?_⟩
  refine Live_c ha6 fun p bp w12 S e12 hp hbp hS hSN hSm => ⟨_, rfl, e12, Live_c (hb6.ext0 e12) fun p' bp' w15 T e15 hp' hbp' hT hTN hTm => ⟨_, rfl, e12.trans e15, ?_⟩⟩
  refine Equal_c (hS.ext0 e15).ref hT.ref fun t ht => ⟨_, rfl, e12.trans e15, ?_⟩
  have E15 : Ext [] w6 w15 := e12.trans e15
  have z15 := E15.size
  have bt15 := bt6.ext0 E15
  refine sel_intro (fun h => ?_) (fun h => ?_)
  · have h : t = false := nf_ h
    obtain ⟨w19, hr19, b19, x19⟩ := store1 (P := Tryz.prog) (v := .bool false) i4s bt15 (i := 0) (by simp) rfl rfl
    refine ⟨w19, hr19, _, b19.cell (i := 0) rfl, k false w19 ((e6.trans E15).trans' x19 (fun b hb' => by simp at hb'; exact .inr (by omega))) ⟨fun h => (by cases h), fun hh => ?_⟩⟩
    have := ht.2 fun i => by rw [hSm, hTm, hh]
    rw [h] at this; cases this
  have h : t = true := nt_ h
  have hlive := ht.1 h
  have ba15 := ba6.ext0 E15
  have bb15 := bb6.ext0 E15
  refine ⟨_, ba15.cell (i := 0) rfl, Live_c (ha6.ext0 E15) fun p bp w24 S2 e24 hp hbp hS2 hS2N hS2m => ⟨_, rfl, ?_⟩⟩
  refine All_c hS2.ref fun bk A c w27 e27 hbk hbk2 held hg => ⟨_, #[], _, rfl, V.when_intro (by kernel_rfl) fun Rc l w30 hl h30 hy => ?_⟩
  obtain ⟨l0, m0, x30, z30⟩ := enter_new hl h30
  have E30 : Ext [] w6 w30 := ((E15.trans e24).trans e27).trans x30
  have z27 := e27.size
  have z24 := e24.size
  have hcnt := count_le hS2.ok
  have hml : S2.mi.length = S2.count := mi_length S2
  have nL : ∀ g, g < w27.heap.size → g ∉ [l] := fun g hg' hm => by simp at hm; omega
  refine (All_iter (A := A) (b := bk) (c := c) (xs := S2.mi) hml hcnt).range
    (I := fun ps W => Ext [] w W ∧ w30.heap.size ≤ W.heap.size ∧ Mrk W w27.heap.size ∧ Held W bk A S2.count c S2.mi ∧ BlkT W w.heap.size [.pointer qa] 27 ∧ BlkT W w3.heap.size [.pointer qb] 27 ∧ BlkT W w4.heap.size [.bool false] 4 ∧ ∀ y ∈ ps, (a.lab y).getD [] = (b.lab y).getD [])
    (Q := fun p W => p = .ret ∧ Ext [] w W ∧ w30.heap.size ≤ W.heap.size ∧ Mrk W w27.heap.size ∧ BlkT W w4.heap.size [.bool false] 4 ∧ ∃ y, (a.lab y).getD [] ≠ (b.lab y).getD [])
    (fun y W R' g1 g2 => hy y W R' g1 ⟨g1, g2⟩) l0 ⟨e6.trans E30, Nat.le_refl _, m0, held.ext (x30.up (F := [])) (by simp) (by simp), (((ba15.ext0 e24).ext0 e27).ext0 x30), (((bb15.ext0 e24).ext0 e27).ext0 x30), (((bt15.ext0 e24).ext0 e27).ext0 x30), by simp⟩ ?_ ?_ (fun ps W h => h.2.2.2.1) ?_ ?_ ?_
  · rintro ps W1 W2 e ⟨q1, q2, q3, q4, q5, q6, q7, q10⟩
    exact ⟨q1.trans' e (fun b hb => .inr (by simp at hb; omega)), Nat.le_trans q2 e.size, q3.ext e (by simp; omega), q4.ext e (by simp; omega) (fun g hg' => by have := hg g hg'; simp; omega), q5.ext e (by simp; omega), q6.ext e (by simp; omega), q7.ext e (by simp; omega), q10⟩
  · rintro p W1 W2 e ⟨q0, q1, q2, q3, q4, q5⟩
    exact ⟨q0, q1.trans' e (fun b hb => .inr (by simp at hb; omega)), Nat.le_trans q2 e.size, q3.ext e (by simp; omega), q4.ext e (by simp; omega), q5⟩
  · rintro ps y rest W R' hsp hW hS ⟨q1, q2, q3, q4, q5, q6, q7, q10⟩ k1 k2
    refine ⟨_, q5.cell (i := 0) rfl, Of_c (ha.ext0 q1) y fun A35 n35 c35 w38 e38 own38 => ⟨_, _, _, _, rfl, _, (q6.ext0 e38).cell (i := 0) rfl, Of_c ((hb.ext0 q1).ext0 e38) y fun A40 n40 c40 w43 e43 own43 => ⟨_, _, _, _, rfl, ?_⟩⟩⟩
    have l38 := own38.len
    have l43 := own43.len
    have la := ha.len y
    refine EqualL_c (own38.ext0 e43).cells l38 own43.cells l43 (by omega) fun w46 e46 => ⟨_, rfl, ?_⟩
    have e0 := (e38.trans e43).trans e46
    have hS46 := LoopSt.ext hS e0 (by simp)
    have z46 := e0.size
    refine sel_intro (fun h => ?_) (fun h => ?_)
    · have h := nf_ h
      have h : (a.lab y).getD [] ≠ (b.lab y).getD [] := of_decide_eq_false h
      obtain ⟨w47, hr47, b47, x47⟩ := store1 (P := Tryz.prog) (v := .bool false) i4s (q7.ext0 e0) (i := 0) (by simp) rfl rfl
      have z47 := x47.size
      have hS47 := LoopSt.ext hS46 x47 (by simp; omega)
      refine ⟨w47, hr47, hS47, k2 w47 .ret hS47 ⟨rfl, (q1.trans e0).trans' x47 (fun b hb => by simp at hb; exact .inr (by omega)), by omega, (q3.ext e0 (by simp)).ext x47 (by simp; omega), b47, y, h⟩⟩
    · have h := nt_ h
      have h : (a.lab y).getD [] = (b.lab y).getD [] := of_decide_eq_true h
      refine ⟨hS46, k1 w46 hS46 ⟨q1.trans e0, by omega, q3.ext e0 (by simp), q4.ext e0 (by simp) (by simp), q5.ext0 e0, q6.ext0 e0, q7.ext0 e0, fun z hz => ?_⟩⟩
      rcases List.mem_append.1 hz with hz | hz
      · exact q10 z hz
      · simp at hz; subst hz; exact h
  · rintro w50 hl50 ⟨q1, q2, q3, q4, q5, q6, q7, q10⟩
    have x51 := setLoop_ext w50 l Rc .exhausted none
    have b51 := q7.ext x51 (by simp; omega)
    obtain ⟨w52, hr52, b52, x52⟩ := store1 (P := Tryz.prog) (v := .bool true) i4s b51 (i := 0) (by simp) rfl rfl
    have m52 := (q3.ext x51 (by simp; omega)).ext x52 (by simp; omega)
    have z51 := x51.size
    have z52 := x52.size
    refine .inl ⟨hl50, w52, hr52, close_one m52 fun w53 x53 => ⟨_, (b52.ext x53 (by simp; omega)).cell (i := 0) rfl, k true w53 ?_ ⟨fun _ i => ?_, fun _ => rfl⟩⟩⟩
    · exact ((q1.trans' x51 (fun b hb => by simp at hb; exact .inr (by omega))).trans' x52 (fun b hb => by simp at hb; exact .inr (by omega))).trans' x53 (fun b hb => by simp at hb; exact .inr (by omega))
    · have hsame : ∀ j : Nat, (a.lab (j : Int)).isSome = (b.lab (j : Int)).isSome := fun j => by rw [← hSm, ← hTm, hlive]
      cases hai : a.lab i with
      | none =>
        cases hbi : b.lab i with
        | none => rfl
        | some l' =>
          obtain ⟨_, j, rfl, _⟩ := hb.ok.lab i l' hbi
          have := hsame j
          rw [hai, hbi] at this; cases this
      | some l' =>
        obtain ⟨_, j, rfl, _⟩ := ha.ok.lab i l' hai
        have h1 := hsame j
        rw [hai] at h1
        have hin : ((j : Nat) : Int) ∈ S2.mi := List.mem_map.2 ⟨j, (mem_members hS2.ok j).2 (by rw [hS2m, hai]; rfl), rfl⟩
        have h2 := q10 _ hin
        cases hbi : b.lab (j : Int) with
        | none => rw [hbi] at h1; cases h1
        | some l2 =>
          rw [hai, hbi] at h2
          have h2 : l' = l2 := h2
          rw [h2]
  · rintro w50 p hl50 ⟨rfl, q1, q2, q3, q4, y, hy⟩
    have x51 := setLoop_ext w50 l Rc .exhausted (some .ret)
    refine .inr (.inl ⟨hl50, close_one (q3.ext x51 (by simp; omega)) fun w53 x53 => ⟨_, ((q4.ext x51 (by simp; omega)).ext x53 (by simp; omega)).cell (i := 0) rfl, k false w53 ?_ ⟨fun h => (by cases h), fun hh => absurd (by rw [hh y]) hy⟩⟩⟩)
    exact (q1.trans' x51 (fun b hb => by simp at hb; exact .inr (by omega))).trans' x53 (fun b hb => by simp at hb; exact .inr (by omega))
end Go.Proofs.YtpipenkaaodlgaaGreatDoor
