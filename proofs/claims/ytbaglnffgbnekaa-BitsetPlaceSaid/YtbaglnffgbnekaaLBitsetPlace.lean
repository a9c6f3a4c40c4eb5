/- Whatever size and lists of places come in, berthlaw01.BitsetPlace returns true and leaves what came in as it was; no condition. -/
import Derived.Test.YtbaglnffgbnekaaS10
import Derived.Test.YtbaglnffgbnekaaRows
set_option linter.unusedVariables false
set_option linter.unusedSimpArgs false
namespace Go.Proofs.Ytbaglnffgbnekaa
open Go Go.V Go.B
open Go.ChangeShapes Go.WideShapes Go.ChangeAt Go.RowKit

set_option maxRecDepth 4000 in
theorem bitsetPlaceW_c {t : Three} {W : World} (ht : t.In W) {R : Ending → World → Prop} (k : ∀ w', Ext [] W w' → R (.returned (.bool true)) w') : Calls Try.prog 9 #[t.val] W R := by
  unfold Three.val Three.cells
  apply berthlaw01_BitsetPlace_nf
  obtain ⟨W0, hW0⟩ : ∃ W0, W0 = W.alloc (.cells ⟨t.cells⟩ 27) := ⟨_, rfl⟩
  have e0 : Ext [] W W0 := by rw [hW0]; exact (Ext.refl _ _).alloc _
  have b0 : Blk W0 W.heap.size t.cells := by rw [hW0]; exact Blk.new _ _ _
  have hdr : ∀ {w' : World} {l : List Ent}, Pool W0 w' l → Blk w' W.heap.size t.cells := fun K => b0.ext K.ext (by simp)
  have tin : ∀ {w' : World} {l : List Ent}, Pool W0 w' l → t.In w' := fun K => (ht.ext0 e0).ext0 K.ext
  have done : ∀ {w' : World} {l : List Ent}, Pool W0 w' l → R (.returned (.bool true)) w' := fun K => k _ (e0.trans K.ext)
  show Calls Try.prog 12 #[] (W.alloc (.cells ⟨t.cells⟩ 27)) _
  rw [← hW0]
  refine awake_c fun w1 e1 => ⟨_, rfl, sel_false rfl ?_⟩
  have K : Pool W0 w1 [] := Pool.empty (e := e1)
  refine ⟨_, Hd.n (hdr K), sized_c _ ⟨_, rfl, ?_⟩⟩
  by_cases hs : 0 ≤ t.n ∧ t.n ≤ 65536
  rotate_left
  · exact sel_true (by simp [hs]) (done K)
  refine sel_false (by simp [hs]) ⟨_, Hd.n (hdr K), ?_⟩
  obtain ⟨N, hN⟩ : ∃ N : Nat, t.n = N := ⟨t.n.toNat, by omega⟩
  have hN6 : N ≤ 65536 := by omega
  have hdrd : Blk w1.drew W.heap.size t.cells := (hdr K).drew
  refine ⟨fun w' => Blk w' W.heap.size t.cells, hdrd, _, fun _ h => Hd.n h, _, _, _, fun _ h => Hd.a h, _, fun _ h => Hd.n h, _, _, _, fun _ h => Hd.b h, ?_⟩
  have hhalf : IntKind.wrap .i64 (Int.tdiv (N : Int) 2) = ((N / 2 : Nat) : Int) := by rw [show (2 : Int) = ((2 : Nat) : Int) from rfl, tdiv_nat N 2, w64 (by omega) (by omega)]
  rw [hN, hhalf]
  replace K : Pool W0 w1.drew [] := K.step (Ext.refl _ _).drew
  refine K.of hN6 (tin K).a (by have := ht.al; omega) (k := fun p1 q1 w1 A _ K' n1 m1 => ⟨_, rfl, hdr K', ?_⟩)
  replace K : Pool W0 _ [(p1, q1, A)] := K'
  replace n1 : A.N = N := n1
  replace m1 : ∀ i : Nat, A.mem i = (decide (i < N) && decide ((i : Int) ∈ t.xs)) := m1
  clear K'
  refine K.of hN6 (tin K).b (by have := ht.bl; omega) (k := fun p2 q2 w2 B _ K' n2 m2 => ⟨_, rfl, hdr K', ?_⟩)
  replace K : Pool W0 _ [(p1, q1, A), (p2, q2, B)] := K'
  replace n2 : B.N = N := n2
  replace m2 : ∀ i : Nat, B.mem i = (decide (i < N) && decide ((i : Int) ∈ t.ys)) := m2
  clear K'
  refine ⟨_, _, _, Hd.a (hdr K), ?_⟩
  refine K.of (n := N / 2) (by omega) (tin K).a (by have := ht.al; omega) (k := fun p3 q3 w3 C _ K' n3 m3 => ⟨_, rfl, ?_⟩)
  replace K : Pool W0 _ [(p1, q1, A), (p2, q2, B), (p3, q3, C)] := K'
  replace n3 : C.N = N / 2 := n3
  replace m3 : ∀ i : Nat, C.mem i = (decide (i < N / 2) && decide ((i : Int) ∈ t.xs)) := m3
  clear K'
  refine K.New (n := N / 2) (by omega) (k := fun p4 q4 w4 D K' n4 m4 => ⟨_, _, rfl, ?_⟩)
  replace K : Pool W0 _ [(p1, q1, A), (p2, q2, B), (p3, q3, C), (p4, q4, D)] := K'
  replace n4 : D.N = N / 2 := n4
  replace m4 : ∀ i : Nat, D.mem i = (false) := m4
  clear K'
  have e5 : Ext [] w4 (w4.alloc (.cells #[.pointer (some ⟨p1, 0, none⟩), .pointer (some ⟨p2, 0, none⟩), .pointer (some ⟨p3, 0, none⟩), .pointer (some ⟨p4, 0, none⟩)] 30)) := (Ext.refl _ _).alloc _
  refine all_c [⟨p1, 0, none⟩, ⟨p2, 0, none⟩, ⟨p3, 0, none⟩, ⟨p4, 0, none⟩] (l := 4) (Blk.new _ _ _) rfl (by omega) ⟨_, rfl, sel_false rfl (num_c _ ⟨_, rfl, sel_false rfl ?_⟩)⟩
  replace K := K.step e5
  refine ⟨fun i w' => ∃ (m : Nat) (E : SetV), i = m ∧ m ≤ N / 2 ∧ Pool W0 w' [(p1, q1, A), (p2, q2, B), (p3, q3, C), (p4, q4, E)] ∧ E.N = N / 2 ∧ ∀ i : Nat, E.mem i = decide (i < m), fun i _ => N / 2 - i.toNat, ⟨0, D, rfl, by omega, K, n4, fun i => by rw [m4]; simp⟩, ?_⟩
  clear K
  rintro _ _ w6 ⟨m, E, rfl, hm, K, nE, mE⟩
  refine sel_dec (fun hlt => ?_) (fun hge => ?_)
  · refine K.Add 3 (m : Int) (k := fun w' E' t' _ K' nE' mE' _ => ⟨_, rfl, ⟨m + 1, E', up64 m (by omega), by omega, K', nE'.trans nE, fun i => ?_⟩, by rw [up64 m (by omega)]; exact down (by omega)⟩)
    replace mE' : ∀ j : Nat, E'.mem j = (E.mem j || decide (0 ≤ (m : Int) ∧ (m : Int) < ((E.N : Nat) : Int) ∧ (j : Int) = (m : Int))) := mE'
    rw [mE', mE, Bool.eq_iff_iff]
    simp only [Bool.or_eq_true, decide_eq_true_eq]
    omega
  obtain rfl : m = N / 2 := by omega
  refine K.Clone (some 1) (k := fun p5 q5 w5 K' => ⟨_, rfl, ?_⟩)
  replace K : Pool W0 _ [(p1, q1, A), (p2, q2, B), (p3, q3, C), (p4, q4, E), (p5, q5, B)] := K'
  clear K'
  refine K.Clone (some 2) (k := fun p6 q6 w6 K' => ⟨_, rfl, ?_⟩)
  replace K : Pool W0 _ [(p1, q1, A), (p2, q2, B), (p3, q3, C), (p4, q4, E), (p5, q5, B), (p6, q6, C)] := K'
  clear K'
  refine K.Clone (some 2) (k := fun p7 q7 w7 K' => ⟨_, rfl, ?_⟩)
  replace K : Pool W0 _ [(p1, q1, A), (p2, q2, B), (p3, q3, C), (p4, q4, E), (p5, q5, B), (p6, q6, C), (p7, q7, C)] := K'
  clear K'
  refine K.Clone (some 2) (k := fun p8 q8 w8 K' => ⟨_, rfl, ?_⟩)
  replace K : Pool W0 _ [(p1, q1, A), (p2, q2, B), (p3, q3, C), (p4, q4, E), (p5, q5, B), (p6, q6, C), (p7, q7, C), (p8, q8, C)] := K'
  clear K'
  refine K.OrWith 5 (some 1) (k := fun w9 S9 _ K' n9 m9 => ⟨rfl, ?_⟩)
  replace K : Pool W0 _ [(p1, q1, A), (p2, q2, B), (p3, q3, C), (p4, q4, E), (p5, q5, B), (p6, q6, S9), (p7, q7, C), (p8, q8, C)] := K'
  replace n9 : S9.N = C.N := n9
  replace m9 : ∀ i : Nat, S9.mem i = (C.mem i || (decide (i < C.N) && B.mem i)) := m9
  clear K'
  refine K.AndWith 6 (some 1) (k := fun w10 S10 _ K' n10 m10 => ⟨rfl, ?_⟩)
  replace K : Pool W0 _ [(p1, q1, A), (p2, q2, B), (p3, q3, C), (p4, q4, E), (p5, q5, B), (p6, q6, S9), (p7, q7, S10), (p8, q8, C)] := K'
  replace n10 : S10.N = C.N := n10
  replace m10 : ∀ i : Nat, S10.mem i = (C.mem i && B.mem i) := m10
  clear K'
  refine K.AndNotWith 7 (some 1) (k := fun w11 S11 _ K' n11 m11 => ⟨rfl, ?_⟩)
  replace K : Pool W0 _ [(p1, q1, A), (p2, q2, B), (p3, q3, C), (p4, q4, E), (p5, q5, B), (p6, q6, S9), (p7, q7, S10), (p8, q8, S11)] := K'
  replace n11 : S11.N = C.N := n11
  replace m11 : ∀ i : Nat, S11.mem i = (C.mem i && !B.mem i) := m11
  clear K'
  have hdrd2 : Blk w11.drew W.heap.size t.cells := (hdr K).drew
  replace K := K.step (Ext.refl _ _).drew
  refine ⟨fun w' => Blk w' W.heap.size t.cells, hdrd2, ?_⟩
  refine K.Size (some 5) (k := ⟨_, rfl, hdr K, ?_⟩)
  refine sel_false (bne_eq_false_iff_eq.2 (congrArg Int.ofNat (n9.trans n3))) ?_
  refine K.Size (some 6) (k := ⟨_, rfl, hdr K, ?_⟩)
  refine sel_false (bne_eq_false_iff_eq.2 (congrArg Int.ofNat (n10.trans n3))) ?_
  refine K.Size (some 7) (k := ⟨_, rfl, hdr K, ?_⟩)
  refine sel_false (bne_eq_false_iff_eq.2 (congrArg Int.ofNat (n11.trans n3))) ?_
  refine K.Equal (some 1) (some 4) (k := fun t12 g12 => ⟨_, rfl, hdr K, ?_⟩)
  replace g12 : t12 = true ↔ ∀ i, B.mem i = B.mem i := g12
  have t12t : t12 = true := g12.2 fun i => by
    rfl
  refine sel_false (by rw [t12t]; rfl) ?_
  refine ⟨_, fun _ h => Hd.n h, ?_⟩
  refine K.Size (some 1) (k := ⟨_, rfl, hdr K, ?_⟩)
  refine sel_false (bne_eq_false_iff_eq.2 (by rw [hN]; exact congrArg Int.ofNat n2)) ?_
  refine K.And (some 1) (some 3) (k := fun p13 q13 w13 S13 K' n13 m13 => ⟨_, rfl, ?_⟩)
  replace K : Pool W0 _ [(p1, q1, A), (p2, q2, B), (p3, q3, C), (p4, q4, E), (p5, q5, B), (p6, q6, S9), (p7, q7, S10), (p8, q8, S11), (p13, q13, S13)] := K'
  replace n13 : S13.N = max B.N E.N := n13
  replace m13 : ∀ i : Nat, S13.mem i = (B.mem i && E.mem i) := m13
  clear K'
  refine K.Or (some 2) (some 8) (k := fun p14 q14 w14 S14 K' n14 m14 => ⟨_, rfl, ?_⟩)
  replace K : Pool W0 _ [(p1, q1, A), (p2, q2, B), (p3, q3, C), (p4, q4, E), (p5, q5, B), (p6, q6, S9), (p7, q7, S10), (p8, q8, S11), (p13, q13, S13), (p14, q14, S14)] := K'
  replace n14 : S14.N = max C.N S13.N := n14
  replace m14 : ∀ i : Nat, S14.mem i = (C.mem i || S13.mem i) := m14
  clear K'
  refine K.Equal (some 5) (some 9) (k := fun t15 g15 => ⟨_, rfl, ?_⟩)
  replace g15 : t15 = true ↔ ∀ i, S9.mem i = S14.mem i := g15
  have t15t : t15 = true := g15.2 fun i => by
    rw [m9, m14, m13, mE, n3]
    cases C.mem i <;> by_cases hi : i < N / 2 <;> cases hB : B.mem i <;> simp [hi, hB]
  refine sel_false (by rw [t15t]; rfl) ?_
  refine K.And (some 2) (some 1) (k := fun p16 q16 w16 S16 K' n16 m16 => ⟨_, rfl, ?_⟩)
  replace K : Pool W0 _ [(p1, q1, A), (p2, q2, B), (p3, q3, C), (p4, q4, E), (p5, q5, B), (p6, q6, S9), (p7, q7, S10), (p8, q8, S11), (p13, q13, S13), (p14, q14, S14), (p16, q16, S16)] := K'
  replace n16 : S16.N = max C.N B.N := n16
  replace m16 : ∀ i : Nat, S16.mem i = (C.mem i && B.mem i) := m16
  clear K'
  refine K.Equal (some 6) (some 10) (k := fun t17 g17 => ⟨_, rfl, ?_⟩)
  replace g17 : t17 = true ↔ ∀ i, S10.mem i = S16.mem i := g17
  have t17t : t17 = true := g17.2 fun i => by
    rw [m10, m16]
  refine sel_false (by rw [t17t]; rfl) ?_
  refine K.AndNot (some 2) (some 1) (k := fun p18 q18 w18 S18 K' n18 m18 => ⟨_, rfl, ?_⟩)
  replace K : Pool W0 _ [(p1, q1, A), (p2, q2, B), (p3, q3, C), (p4, q4, E), (p5, q5, B), (p6, q6, S9), (p7, q7, S10), (p8, q8, S11), (p13, q13, S13), (p14, q14, S14), (p16, q16, S16), (p18, q18, S18)] := K'
  replace n18 : S18.N = max C.N B.N := n18
  replace m18 : ∀ i : Nat, S18.mem i = (C.mem i && !B.mem i) := m18
  clear K'
  refine K.Equal (some 7) (some 11) (k := fun t19 g19 => ⟨_, rfl, ?_⟩)
  replace g19 : t19 = true ↔ ∀ i, S11.mem i = S18.mem i := g19
  have t19t : t19 = true := g19.2 fun i => by
    rw [m11, m18]
  refine sel_false (by rw [t19t]; rfl) ?_
  have hdrd3 : Blk w18.drew W.heap.size t.cells := (hdr K).drew
  replace K := K.step (Ext.refl _ _).drew
  refine ⟨fun w' => Blk w' W.heap.size t.cells, hdrd3, _, fun _ h => Hd.n h, ?_⟩
  have hoN : S9.N = N / 2 := n9.trans n3
  rw [hN]
  refine K.Grow 5 (N : Int) (kbad := fun h => by omega) (kless := fun _ h => ?_) (k := fun qg wg F _ _ K' nF mF => ⟨_, rfl, hdr K', num_c _ ⟨_, rfl, hdr K', sel_false rfl ?_⟩⟩)
  · exfalso
    replace h : (N : Int) < ((S9.N : Nat) : Int) := h
    omega
  replace K : Pool W0 _ [(p1, q1, A), (p2, q2, B), (p3, q3, C), (p4, q4, E), (p5, q5, B), (p6, qg, F), (p7, q7, S10), (p8, q8, S11), (p13, q13, S13), (p14, q14, S14), (p16, q16, S16), (p18, q18, S18)] := K'
  replace mF : ∀ i : Nat, F.mem i = S9.mem i := mF
  have nF' : F.N = N := Int.ofNat_inj.1 nF
  refine ⟨_, fun _ h => Hd.n h, ?_⟩
  refine K.Size (some 5) (k := ⟨_, rfl, hdr K, ?_⟩)
  refine sel_false (bne_eq_false_iff_eq.2 (by rw [hN]; exact nF)) ?_
  refine K.And (some 1) (some 3) (k := fun p20 q20 w20 S20 K' n20 m20 => ⟨_, rfl, hdr K', ?_⟩)
  replace K : Pool W0 _ [(p1, q1, A), (p2, q2, B), (p3, q3, C), (p4, q4, E), (p5, q5, B), (p6, qg, F), (p7, q7, S10), (p8, q8, S11), (p13, q13, S13), (p14, q14, S14), (p16, q16, S16), (p18, q18, S18), (p20, q20, S20)] := K'
  replace n20 : S20.N = max B.N E.N := n20
  replace m20 : ∀ i : Nat, S20.mem i = (B.mem i && E.mem i) := m20
  clear K'
  refine K.Or (some 2) (some 12) (k := fun p21 q21 w21 S21 K' n21 m21 => ⟨_, rfl, hdr K', ?_⟩)
  replace K : Pool W0 _ [(p1, q1, A), (p2, q2, B), (p3, q3, C), (p4, q4, E), (p5, q5, B), (p6, qg, F), (p7, q7, S10), (p8, q8, S11), (p13, q13, S13), (p14, q14, S14), (p16, q16, S16), (p18, q18, S18), (p20, q20, S20), (p21, q21, S21)] := K'
  replace n21 : S21.N = max C.N S20.N := n21
  replace m21 : ∀ i : Nat, S21.mem i = (C.mem i || S20.mem i) := m21
  clear K'
  refine K.Equal (some 5) (some 13) (k := fun t22 g22 => ⟨_, rfl, hdr K, ?_⟩)
  replace g22 : t22 = true ↔ ∀ i, F.mem i = S21.mem i := g22
  have t22t : t22 = true := g22.2 fun i => by
    rw [mF, m9, m21, m20, mE, n3]
    cases C.mem i <;> by_cases hi : i < N / 2 <;> cases hB : B.mem i <;> simp [hi, hB]
  refine sel_false (by rw [t22t]; rfl) ?_
  refine K.OrWith 5 (some 1) (k := fun w23 S23 _ K' n23 m23 => ⟨rfl, ?_⟩)
  replace K : Pool W0 _ [(p1, q1, A), (p2, q2, B), (p3, q3, C), (p4, q4, E), (p5, q5, B), (p6, qg, S23), (p7, q7, S10), (p8, q8, S11), (p13, q13, S13), (p14, q14, S14), (p16, q16, S16), (p18, q18, S18), (p20, q20, S20), (p21, q21, S21)] := K'
  replace n23 : S23.N = F.N := n23
  replace m23 : ∀ i : Nat, S23.mem i = (F.mem i || (decide (i < F.N) && B.mem i)) := m23
  clear K'
  refine K.OrWith 5 (some 5) (k := fun w24 S24 _ K' n24 m24 => ⟨rfl, ?_⟩)
  replace K : Pool W0 _ [(p1, q1, A), (p2, q2, B), (p3, q3, C), (p4, q4, E), (p5, q5, B), (p6, qg, S24), (p7, q7, S10), (p8, q8, S11), (p13, q13, S13), (p14, q14, S14), (p16, q16, S16), (p18, q18, S18), (p20, q20, S20), (p21, q21, S21)] := K'
  replace n24 : S24.N = S23.N := n24
  replace m24 : ∀ i : Nat, S24.mem i = (S23.mem i || (decide (i < S23.N) && S23.mem i)) := m24
  clear K'
  refine K.AndWith 5 (some 5) (k := fun w25 S25 _ K' n25 m25 => ⟨rfl, ?_⟩)
  replace K : Pool W0 _ [(p1, q1, A), (p2, q2, B), (p3, q3, C), (p4, q4, E), (p5, q5, B), (p6, qg, S25), (p7, q7, S10), (p8, q8, S11), (p13, q13, S13), (p14, q14, S14), (p16, q16, S16), (p18, q18, S18), (p20, q20, S20), (p21, q21, S21)] := K'
  replace n25 : S25.N = S24.N := n25
  replace m25 : ∀ i : Nat, S25.mem i = (S24.mem i && S24.mem i) := m25
  clear K'
  refine K.Or (some 2) (some 1) (k := fun p26 q26 w26 S26 K' n26 m26 => ⟨_, rfl, ?_⟩)
  replace K : Pool W0 _ [(p1, q1, A), (p2, q2, B), (p3, q3, C), (p4, q4, E), (p5, q5, B), (p6, qg, S25), (p7, q7, S10), (p8, q8, S11), (p13, q13, S13), (p14, q14, S14), (p16, q16, S16), (p18, q18, S18), (p20, q20, S20), (p21, q21, S21), (p26, q26, S26)] := K'
  replace n26 : S26.N = max C.N B.N := n26
  replace m26 : ∀ i : Nat, S26.mem i = (C.mem i || B.mem i) := m26
  clear K'
  refine K.Equal (some 5) (some 14) (k := fun t27 g27 => ⟨_, rfl, ?_⟩)
  replace g27 : t27 = true ↔ ∀ i, S25.mem i = S26.mem i := g27
  have t27t : t27 = true := g27.2 fun i => by
    have hBN : B.mem i = true → i < N := fun h => by
      rw [m2] at h
      simp only [Bool.and_eq_true, decide_eq_true_eq] at h
      exact h.1
    rw [m25, m24, m23, mF, m9, m26, n3, nF']
    cases C.mem i <;> cases hB : B.mem i <;> simp_all <;> omega
  refine sel_false (by rw [t27t]; rfl) ?_
  refine K.AndNotWith 5 (some 5) (k := fun w28 S28 _ K' n28 m28 => ⟨rfl, ?_⟩)
  replace K : Pool W0 _ [(p1, q1, A), (p2, q2, B), (p3, q3, C), (p4, q4, E), (p5, q5, B), (p6, qg, S28), (p7, q7, S10), (p8, q8, S11), (p13, q13, S13), (p14, q14, S14), (p16, q16, S16), (p18, q18, S18), (p20, q20, S20), (p21, q21, S21), (p26, q26, S26)] := K'
  replace n28 : S28.N = S25.N := n28
  replace m28 : ∀ i : Nat, S28.mem i = (S25.mem i && !S25.mem i) := m28
  clear K'
  have hdrd4 : Blk w28.drew W.heap.size t.cells := (hdr K).drew
  replace K := K.step (Ext.refl _ _).drew
  refine ⟨fun w' => Blk w' W.heap.size t.cells, hdrd4, ?_⟩
  have hz : S28.count = 0 := by
    have hp := count_pos (K.ok (some 5) (Nat.le_of_ble_eq_true rfl))
    refine Nat.eq_zero_of_not_pos fun h => ?_
    obtain ⟨i, hi⟩ := hp.1 h
    replace hi : S28.mem i = true := hi
    rw [m28] at hi
    simp at hi
  refine K.Count (some 5) (k := ⟨_, rfl, hdr K, ?_⟩)
  refine sel_true (by show (((S28.count : Nat) : Int) == 0) = true; rw [hz]; rfl) ⟨_, fun _ h => Hd.n h, ?_⟩
  refine K.Size (some 5) (k := ⟨_, rfl, hdr K, ?_⟩)
  have hfin : (((S28.N : Nat) : Int) == t.n) = true := by
    rw [n28, n25, n24, n23, nF', hN]; simp
  show R (.returned (.bool (((S28.N : Nat) : Int) == t.n))) _
  rw [hfin]
  exact done K
theorem bitsetPlace_lifted (os : Os) (started : os.Started) (H : Type) (enc : TypeId × Value → H) :
    ReturnsInHanded {} Try.checked os 9 .any (Rows.bitsetPlaceSpec.pre6 enc Try.prog Try.f9 Rows.bitsetPlaceRow.domain false) (Rows.bitsetPlaceSpec.post enc Try.prog Try.f9 false true false false) :=
  lift1 (C := Try.checked) (T := 27) (tb := 4) own (by kernel_rfl) Try.func9 (by kernel_rfl) (by kernel_rfl) Try.underlying4 rfl (fun _ _ => rfl) laidOut (by kernel_rfl) (of_decide_eq_true (by kernel_rfl)) os started H enc
    (fun W base v d p hok h hw => by
      obtain ⟨t, rfl, ht⟩ := open_three hok h hw
      exact bitsetPlaceW_c ht fun w' e => ⟨rfl, e.below⟩)
    (ChangeSpec.witness6 (enc := enc) (C := Try.checked) false ⟨#[], #[.agg #[.int .i64 0, .slice none 0 0, .slice none 0 0, .slice none 0 0]], []⟩ 8 (by kernel_rfl) (by kernel_rfl) (by kernel_rfl) (by kernel_rfl))
theorem bitsetPlace_holds : Rows.BitsetPlaceSaid :=
  OpenClaim.holds_of_wide 9 Try.f9 rfl rfl rfl rfl rfl rfl rfl ⟨rfl, rfl, rfl, rfl, rfl⟩ rfl rfl rfl rfl rfl (by kernel_rfl) Try.func9 (by kernel_rfl)
    (of_decide_eq_true (by kernel_rfl)) (by unfold Func.isWrapper; first | (rw [if_pos (by decide +kernel)]; kernel_rfl) | (rw [if_neg (by decide +kernel)]; exact ⟨rfl, rfl⟩))
    (fun os started H enc _ => bitsetPlace_lifted os started H enc)
end Go.Proofs.Ytbaglnffgbnekaa
