/- Whatever size and lists of places come in, berthlaw01.BitsetAlgebra returns true and leaves what came in as it was; no condition. -/
import Derived.Test.YtbaglnffgbnekaaS9
import Derived.Test.YtbaglnffgbnekaaRows
set_option linter.unusedVariables false
set_option linter.unusedSimpArgs false
namespace Go.Proofs.Ytbaglnffgbnekaa
open Go Go.V Go.B
open Go.ChangeShapes Go.WideShapes Go.ChangeAt Go.RowKit

/-- What stands through the whole walk: the three sets, what came in. -/
structure Live (W w : World) (x : Nat) (t : Three) (qa qb ql : Option Addr) (A B L : SetV) (fa fb fl : List Nat) : Prop where
  ext : Ext [] W w
  hd : Blk w x t.cells
  a : RefAt w qa A fa
  b : RefAt w qb B fb
  l : RefAt w ql L fl
theorem Live.step {W w w' : World} {x : Nat} {t : Three} {qa qb ql : Option Addr} {A B L : SetV} {fa fb fl : List Nat} (h : Live W w x t qa qb ql A B L fa fb fl) (e : Ext [] w w') : Live W w' x t qa qb ql A B L fa fb fl :=
  ⟨h.ext.trans e, h.hd.ext e (by simp), h.a.ext0 e, h.b.ext0 e, h.l.ext0 e⟩
set_option maxRecDepth 4000 in
theorem algebra_c {t : Three} {W : World} (ht : t.In W) {R : Ending → World → Prop} (k : ∀ w', Ext [] W w' → R (.returned (.bool true)) w') : Calls Try.prog 6 #[t.val] W R := by
  unfold Three.val Three.cells
  apply berthlaw01_BitsetAlgebra_nf
  have e0 : Ext [] W (W.alloc (.cells ⟨t.cells⟩ 27)) := (Ext.refl _ _).alloc _
  have b0 : Blk (W.alloc (.cells ⟨t.cells⟩ 27)) W.heap.size t.cells := Blk.new _ _ _
  refine awake_c fun w1 e1 => ⟨_, rfl, sel_false rfl ⟨_, Hd.n (b0.ext e1 (by simp)), sized_c _ ⟨_, rfl, ?_⟩⟩⟩
  have b1 := b0.ext e1 (by simp)
  have f1 := e0.trans e1
  by_cases hs : 0 ≤ t.n ∧ t.n ≤ 65536
  rotate_left
  · refine sel_true (by simp [hs]) ⟨_, Hd.n b1, New_bad (by omega) ⟨_, _, rfl, num_c _ ⟨_, rfl, k _ f1⟩⟩⟩
  refine sel_false (by simp [hs]) ?_
  obtain ⟨N, hN⟩ : ∃ N : Nat, t.n = N := ⟨t.n.toNat, by omega⟩
  have hN6 : N ≤ 65536 := by omega
  refine ⟨fun w' => Blk w' W.heap.size t.cells, b1.drew, _, fun _ h => Hd.n h, _, _, _, fun _ h => Hd.a h, _, fun _ h => Hd.n h, _, _, _, fun _ h => Hd.b h, _, fun _ h => Hd.n h, _, _, _, fun _ h => Hd.d h, ?_⟩
  rw [hN]
  have f1d := f1.drew
  refine of_c hN6 (ht.a.ext0 f1d) (by have := ht.al; omega) fun p1 v1 w2 A e2 _ _ sA hAN hAm => ⟨_, rfl, b1.drew.ext e2 (by simp), ?_⟩
  have f2 := f1d.trans e2
  have b2 := b1.drew.ext e2 (by simp)
  refine of_c hN6 (ht.b.ext0 f2) (by have := ht.bl; omega) fun p2 v2 w3 B e3 _ _ sB hBN hBm => ⟨_, rfl, b2.ext e3 (by simp), ?_⟩
  have f3 := f2.trans e3
  have b3 := b2.ext e3 (by simp)
  refine of_c hN6 (ht.d.ext0 f3) (by have := ht.dl; omega) fun p3 v3 w4 L e4 _ _ sL hLN hLm => ⟨_, rfl, b3.ext e4 (by simp), ?_⟩
  have f4 := f3.trans e4
  have e5 : Ext [] w4 (w4.alloc (.cells #[.pointer (some ⟨p1, 0, none⟩), .pointer (some ⟨p2, 0, none⟩), .pointer (some ⟨p3, 0, none⟩)] 30)) := (Ext.refl _ _).alloc _
  refine all_c [⟨p1, 0, none⟩, ⟨p2, 0, none⟩, ⟨p3, 0, none⟩] (l := 3) (Blk.new _ _ _) rfl (by omega) ⟨_, rfl, sel_false rfl ?_⟩
  have K : Live W _ W.heap.size t (some ⟨p1, 0, none⟩) (some ⟨p2, 0, none⟩) (some ⟨p3, 0, none⟩) A B L [p1, v1] [p2, v2] [p3, v3] :=
    ⟨f4.trans e5, (b3.ext e4 (by simp)).ext e5 (by simp), ((sA.ext0 e3).ext0 e4).ref.ext0 e5, (sB.ext0 e4).ref.ext0 e5, sL.ref.ext0 e5⟩
  clear e5 f4 e4 f3 e3 f2 e2 b1 b2 b3 f1 f1d e1 sA sB sL b0 e0
  have oA := K.a.ok
  have oB := K.b.ok
  have oL := K.l.ok
  refine Or_c K.a K.b fun q1 u1 w1 S1 x1 _ _ s1 n1 m1 => ⟨_, rfl, ?_⟩
  replace K := K.step x1
  refine Not_c s1.ref K.l fun q2 u2 w2 S2 x2 _ _ s2 n2 m2 => ⟨_, rfl, ?_⟩
  replace K := K.step x2
  replace s1 := s1.ext0 x2
  refine Not_c K.a K.l fun q3 u3 w3 S3 x3 _ _ s3 n3 m3 => ⟨_, rfl, ?_⟩
  replace K := K.step x3
  replace s1 := s1.ext0 x3
  replace s2 := s2.ext0 x3
  refine Not_c K.b K.l fun q4 u4 w4 S4 x4 _ _ s4 n4 m4 => ⟨_, rfl, ?_⟩
  replace K := K.step x4
  replace s1 := s1.ext0 x4
  replace s2 := s2.ext0 x4
  replace s3 := s3.ext0 x4
  refine And_c s3.ref s4.ref fun q5 u5 w5 S5 x5 _ _ s5 n5 m5 => ⟨_, rfl, ?_⟩
  replace K := K.step x5
  replace s1 := s1.ext0 x5
  replace s2 := s2.ext0 x5
  replace s3 := s3.ext0 x5
  replace s4 := s4.ext0 x5
  refine Equal_c s2.ref s5.ref fun t6 g6 => ⟨_, rfl, ?_⟩
  have t61 : t6 = true := g6.2 fun i => by rw [m2, m1, m5, m3, m4]; cases A.mem i <;> cases B.mem i <;> cases L.mem i <;> rfl
  refine sel_false (by rw [t61]; rfl) ?_
  refine And_c K.a K.b fun q1 u1 w1 S1 x7 _ _ s1 n1 m1 => ⟨_, rfl, ?_⟩
  replace K := K.step x7
  refine Not_c s1.ref K.l fun q2 u2 w2 S2 x8 _ _ s2 n2 m2 => ⟨_, rfl, ?_⟩
  replace K := K.step x8
  replace s1 := s1.ext0 x8
  refine Not_c K.a K.l fun q3 u3 w3 S3 x9 _ _ s3 n3 m3 => ⟨_, rfl, ?_⟩
  replace K := K.step x9
  replace s1 := s1.ext0 x9
  replace s2 := s2.ext0 x9
  refine Not_c K.b K.l fun q4 u4 w4 S4 x10 _ _ s4 n4 m4 => ⟨_, rfl, ?_⟩
  replace K := K.step x10
  replace s1 := s1.ext0 x10
  replace s2 := s2.ext0 x10
  replace s3 := s3.ext0 x10
  refine Or_c s3.ref s4.ref fun q5 u5 w5 S5 x11 _ _ s5 n5 m5 => ⟨_, rfl, ?_⟩
  replace K := K.step x11
  replace s1 := s1.ext0 x11
  replace s2 := s2.ext0 x11
  replace s3 := s3.ext0 x11
  replace s4 := s4.ext0 x11
  refine Equal_c s2.ref s5.ref fun t12 g12 => ⟨_, rfl, ?_⟩
  have t121 : t12 = true := g12.2 fun i => by rw [m2, m1, m5, m3, m4]; cases A.mem i <;> cases B.mem i <;> cases L.mem i <;> rfl
  refine sel_false (by rw [t121]; rfl) ?_
  refine Or_c K.b K.l fun q1 u1 w1 S1 x13 _ _ s1 n1 m1 => ⟨_, rfl, ?_⟩
  replace K := K.step x13
  refine And_c K.a s1.ref fun q2 u2 w2 S2 x14 _ _ s2 n2 m2 => ⟨_, rfl, ?_⟩
  replace K := K.step x14
  replace s1 := s1.ext0 x14
  refine And_c K.a K.b fun q3 u3 w3 S3 x15 _ _ s3 n3 m3 => ⟨_, rfl, ?_⟩
  replace K := K.step x15
  replace s1 := s1.ext0 x15
  replace s2 := s2.ext0 x15
  refine And_c K.a K.l fun q4 u4 w4 S4 x16 _ _ s4 n4 m4 => ⟨_, rfl, ?_⟩
  replace K := K.step x16
  replace s1 := s1.ext0 x16
  replace s2 := s2.ext0 x16
  replace s3 := s3.ext0 x16
  refine Or_c s3.ref s4.ref fun q5 u5 w5 S5 x17 _ _ s5 n5 m5 => ⟨_, rfl, ?_⟩
  replace K := K.step x17
  replace s1 := s1.ext0 x17
  replace s2 := s2.ext0 x17
  replace s3 := s3.ext0 x17
  replace s4 := s4.ext0 x17
  refine Equal_c s2.ref s5.ref fun t18 g18 => ⟨_, rfl, ?_⟩
  have t181 : t18 = true := g18.2 fun i => by rw [m2, m1, m5, m3, m4]; cases A.mem i <;> cases B.mem i <;> cases L.mem i <;> rfl
  refine sel_false (by rw [t181]; rfl) ?_
  refine Xor_c K.a K.b fun q1 u1 w1 S1 x19 _ _ s1 n1 m1 => ⟨_, rfl, ?_⟩
  replace K := K.step x19
  refine Or_c K.a K.b fun q2 u2 w2 S2 x20 _ _ s2 n2 m2 => ⟨_, rfl, ?_⟩
  replace K := K.step x20
  replace s1 := s1.ext0 x20
  refine And_c K.a K.b fun q3 u3 w3 S3 x21 _ _ s3 n3 m3 => ⟨_, rfl, ?_⟩
  replace K := K.step x21
  replace s1 := s1.ext0 x21
  replace s2 := s2.ext0 x21
  refine AndNot_c s2.ref s3.ref fun q4 u4 w4 S4 x22 _ _ s4 n4 m4 => ⟨_, rfl, ?_⟩
  replace K := K.step x22
  replace s1 := s1.ext0 x22
  replace s2 := s2.ext0 x22
  replace s3 := s3.ext0 x22
  refine Equal_c s1.ref s4.ref fun t23 g23 => ⟨_, rfl, ?_⟩
  have t231 : t23 = true := g23.2 fun i => by rw [m1, m4, m2, m3]; cases A.mem i <;> cases B.mem i <;> rfl
  refine sel_false (by rw [t231]; rfl) ?_
  refine Not_c K.a K.l fun q1 u1 w1 S1 x24 _ _ s1 n1 m1 => ⟨_, rfl, ?_⟩
  replace K := K.step x24
  refine Not_c s1.ref K.l fun q2 u2 w2 S2 x25 _ _ s2 n2 m2 => ⟨_, rfl, ?_⟩
  replace K := K.step x25
  replace s1 := s1.ext0 x25
  refine And_c K.a K.l fun q3 u3 w3 S3 x26 _ _ s3 n3 m3 => ⟨_, rfl, ?_⟩
  replace K := K.step x26
  replace s1 := s1.ext0 x26
  replace s2 := s2.ext0 x26
  refine Equal_c s2.ref s3.ref fun t27 g27 => ⟨_, rfl, ?_⟩
  have t271 : t27 = true := g27.2 fun i => by rw [m2, m1, m3]; cases A.mem i <;> cases L.mem i <;> rfl
  refine sel_false (by rw [t271]; rfl) ?_
  refine AndNot_c K.a K.b fun q1 u1 w1 S1 x28 _ _ s1 n1 m1 => ⟨_, rfl, ?_⟩
  replace K := K.step x28
  refine Meets_c s1.ref K.b fun t1 g1 => ⟨_, rfl, ?_⟩
  have t11 : t1 = false := by
    cases t1 with
    | false => rfl
    | true =>
      obtain ⟨i, h1, h2⟩ := g1.1 rfl
      rw [m1, h2] at h1; simp at h1
  refine sel_false t11 ?_
  refine Or_c K.a K.b fun q1 u1 w1 S1 x29 _ _ s1 n1 m1 => ⟨_, rfl, ?_⟩
  replace K := K.step x29
  refine Count_c s1.ref ⟨_, rfl, ?_⟩
  refine And_c K.a K.b fun q2 u2 w2 S2 x30 _ _ s2 n2 m2 => ⟨_, rfl, ?_⟩
  replace K := K.step x30
  replace s1 := s1.ext0 x30
  refine Count_c s2.ref ⟨_, rfl, Count_c K.a ⟨_, rfl, Count_c K.b ⟨_, rfl, ?_⟩⟩⟩
  have hc := count_or_and oA oB s1.ok s2.ok m1 m2
  have c1 := count_le s1.ok
  have c2 := count_le s2.ok
  have c3 := count_le oA
  have c4 := count_le oB
  refine sel_false (by rw [w64 (by omega) (by omega), w64 (by omega) (by omega), bne_eq_false_iff_eq]; omega) ?_
  refine Subset_c K.a K.b fun t2 g2 => ⟨_, rfl, ?_⟩
  refine And_c K.a K.b fun q1 u1 w1 S1 x31 _ _ s1 n1 m1 => ⟨_, rfl, ?_⟩
  replace K := K.step x31
  refine Equal_c s1.ref K.a fun t3 g3 => ⟨_, rfl, ?_⟩
  have h23 : t2 = t3 := by
    rw [Bool.eq_iff_iff, g2, g3]
    constructor
    · intro h i
      rw [m1]
      cases hA : A.mem i with
      | false => rfl
      | true => rw [h i hA]; rfl
    · intro h i hA
      have := h i
      rw [m1, hA] at this
      simpa using this
  refine sel_false (by rw [h23]; simp) ?_
  refine Meets_c K.a K.b fun t4 g4 => ⟨_, rfl, ?_⟩
  refine And_c K.a K.b fun q1 u1 w1 S1 x32 _ _ s1 n1 m1 => ⟨_, rfl, ?_⟩
  replace K := K.step x32
  have hp := count_pos s1.ok
  refine Count_c s1.ref ⟨_, rfl, ?_⟩
  have h45 : t4 = decide (((S1.count : Nat) : Int) > 0) := by
    rw [Bool.eq_iff_iff, g4, decide_eq_true_eq]
    constructor
    · rintro ⟨i, h1, h2⟩
      have := hp.2 ⟨i, by rw [m1, h1, h2]; rfl⟩
      omega
    · intro h
      obtain ⟨i, hi⟩ := hp.1 (by omega)
      rw [m1, Bool.and_eq_true] at hi
      exact ⟨i, hi⟩
  refine sel_false (by rw [h45]; simp) ?_
  have fin : ∀ w', Live W w' W.heap.size t (some ⟨p1, 0, none⟩) (some ⟨p2, 0, none⟩) (some ⟨p3, 0, none⟩) A B L [p1, v1] [p2, v2] [p3, v3] → Calls Try.prog 39 #[t.val, .pointer (some ⟨p1, 0, none⟩)] w' fun e177 w178 => ∃ b176, e177 = .returned (.bool b176) ∧ R (.returned (.bool b176)) w178 :=
    fun w' K' => counted_c hN (ht.ext0 K'.ext) K'.a hAN hAm fun w6 e6 => ⟨_, rfl, k _ (K'.ext.trans e6)⟩
  refine Equal_c K.a K.b fun t5 g5 => ⟨_, rfl, ?_⟩
  refine Subset_c K.a K.b fun t6 g6 => ⟨_, rfl, ?_⟩
  refine sel_intro (fun h6 => ?_) (fun h6 => ?_)
  · refine Subset_c K.b K.a fun t7 g7 => ⟨_, rfl, ?_⟩
    have h57 : t5 = t7 := by
      rw [Bool.eq_iff_iff, g5, g7]
      constructor
      · intro h i hi
        rw [h i]; exact hi
      · intro h i
        have q1 := g6.1 h6 i
        have q2 := h i
        cases hA : A.mem i <;> cases hB : B.mem i <;> simp_all
    refine sel_true (by rw [h57]; simp) ⟨_, Hd.n K.hd, _, _, _, Hd.a K.hd, _, _, _, Hd.b K.hd, _, _, _, Hd.d K.hd, fin _ K⟩
  · have h5 : t5 = false := by
      cases t5 with
      | false => rfl
      | true =>
        have := g6.2 fun i hi => by rw [← g5.1 rfl i]; exact hi
        rw [this] at h6; cases h6
    refine sel_true (by rw [h5]; rfl) ⟨_, Hd.n K.hd, _, _, _, Hd.a K.hd, _, _, _, Hd.b K.hd, _, _, _, Hd.d K.hd, fin _ K⟩
theorem bitsetAlgebra_lifted (os : Os) (started : os.Started) (H : Type) (enc : TypeId × Value → H) :
    ReturnsInHanded {} Try.checked os 6 .any (Rows.bitsetAlgebraSpec.pre6 enc Try.prog Try.f6 Rows.bitsetAlgebraRow.domain false) (Rows.bitsetAlgebraSpec.post enc Try.prog Try.f6 false true false false) :=
  lift1 (C := Try.checked) (T := 27) (tb := 4) own (by kernel_rfl) Try.func6 (by kernel_rfl) (by kernel_rfl) Try.underlying4 rfl (fun _ _ => rfl) laidOut (by kernel_rfl) (of_decide_eq_true (by kernel_rfl)) os started H enc
    (fun W base v d p hok h hw => by
      obtain ⟨t, rfl, ht⟩ := open_three hok h hw
      exact algebra_c ht fun w' e => ⟨rfl, e.below⟩)
    (ChangeSpec.witness6 (enc := enc) (C := Try.checked) false ⟨#[], #[.agg #[.int .i64 0, .slice none 0 0, .slice none 0 0, .slice none 0 0]], []⟩ 8 (by kernel_rfl) (by kernel_rfl) (by kernel_rfl) (by kernel_rfl))
theorem bitsetAlgebra_holds : Rows.BitsetAlgebraSaid :=
  OpenClaim.holds_of_wide 6 Try.f6 rfl rfl rfl rfl rfl rfl rfl ⟨rfl, rfl, rfl, rfl, rfl⟩ rfl rfl rfl rfl rfl (by kernel_rfl) Try.func6 (by kernel_rfl)
    (of_decide_eq_true (by kernel_rfl)) (by unfold Func.isWrapper; first | (rw [if_pos (by decide +kernel)]; kernel_rfl) | (rw [if_neg (by decide +kernel)]; exact ⟨rfl, rfl⟩))
    (fun os started H enc _ => bitsetAlgebra_lifted os started H enc)
end Go.Proofs.Ytbaglnffgbnekaa
