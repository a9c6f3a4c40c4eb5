/- Whatever size and lists of places come in, berthlaw01.BitsetLists returns true and leaves what came in as it was; no condition. -/
import Derived.Test.YtbaglnffgbnekaaS17
import Derived.Test.YtbaglnffgbnekaaRows
set_option linter.unusedVariables false
set_option linter.unusedSimpArgs false
namespace Go.Proofs.Ytbaglnffgbnekaa
open Go Go.V Go.B
open Go.ChangeShapes Go.WideShapes Go.ChangeAt Go.RowKit

set_option maxRecDepth 100000 in
theorem bitsetListsW_c {t : Three} {W : World} (ht : t.In W) {R : Ending → World → Prop} (k : ∀ w', Ext [] W w' → R (.returned (.bool true)) w') : Calls Try.prog 4 #[t.val] W R := by
  unfold Three.val Three.cells
  apply berthlaw01_BitsetLists_nf
  obtain ⟨W0, hW0⟩ : ∃ W0, W0 = W.alloc (.cells ⟨t.cells⟩ 27) := ⟨_, rfl⟩
  have e0 : Ext [] W W0 := by rw [hW0]; exact (Ext.refl _ _).alloc _
  have b0 : Blk W0 W.heap.size t.cells := by rw [hW0]; exact Blk.new _ _ _
  show Calls Try.prog 12 #[] (W.alloc (.cells ⟨t.cells⟩ 27)) _
  rw [← hW0]
  refine awake_c fun w1 e1 => ⟨_, rfl, sel_false rfl ?_⟩
  have hd : ∀ {w' : World}, Ext [] W0 w' → Blk w' W.heap.size t.cells := fun e => b0.ext e (by simp)
  have fin : ∀ {w' : World}, Ext [] W0 w' → R (.returned (.bool true)) w' := fun e => k _ (e0.trans e)
  refine ⟨_, Hd.n (hd e1), sized_c _ ⟨_, rfl, ?_⟩⟩
  by_cases hs : 0 ≤ t.n ∧ t.n ≤ 65536
  rotate_left
  · refine sel_true (by simp [hs]) (awake_c fun w2 e2 => ⟨_, rfl, fin (e1.trans e2)⟩)
  refine sel_false (by simp [hs]) ⟨_, _, _, Hd.a (hd e1), ?_⟩
  obtain ⟨N, hN⟩ : ∃ N : Nat, t.n = N := ⟨t.n.toNat, by omega⟩
  have hN6 : N ≤ 65536 := by omega
  have hta := ht.al
  have hlen := ht.a.len
  have ecap : IntKind.wrap .i64 (((t.la : Nat) : Int) + 9) = ((t.la + 9 : Nat) : Int) := by rw [w64 (by omega) (by omega)]; omega
  rw [ecap]
  refine when_intro ?_ ?_
  · rw [decide_eq_true_eq]; omega
  rw [Int.toNat_natCast]
  have e2 : Ext [] w1 (w1.alloc (.cells ⟨V.rep (t.la + 9) [.int .i64 0]⟩ 3)) := (Ext.refl _ _).alloc _
  have own2 : (w1.alloc (.cells ⟨V.rep (t.la + 9) [.int .i64 0]⟩ 3)).ownsRow w1.heap.size 3 1 (.slice (some ⟨w1.heap.size, 0, none⟩) 0 (t.la + 9)) 0 (ints .i64 []) := by
    have hh : (w1.alloc (.cells ⟨V.rep (t.la + 9) [.int .i64 0]⟩ 3)).heap[w1.heap.size]? = some (.cells ⟨V.rep (t.la + 9) [.int .i64 0]⟩ 3 (0, 0)) := by
      show (w1.heap.push _)[w1.heap.size]? = _; simp
    have := own_made hh (c := t.la + 9) (n := 0) (by simp [V.rep]) (by omega) (by omega) (Nat.le_refl _)
    simpa [ints] using this
  refine ⟨fun A l c i w' => ∃ m : Nat, i = m ∧ m ≤ t.la ∧ l ≤ m ∧ Ext [] w1 w' ∧ w'.ownsRow w1.heap.size 3 1 (.slice A l c) l (ints .i64 (inside N (t.xs.take m))), fun _ _ _ i _ => t.la - i.toNat, ⟨0, rfl, by omega, by omega, e2, own2⟩, ?_⟩
  rintro A l c _ _ w3 ⟨m, rfl, hm, hlm, e3, own3⟩
  have f3 := e1.trans e3
  refine ⟨_, _, _, Hd.a (hd f3), sel_dec (fun hlt => ?_) (fun hge => ?_)⟩
  · have hml : m < t.la := by omega
    have ha3 := ((ht.a.ext0 e0).ext0 f3)
    have htk := getD_take_succ t.xs m (by omega)
    have step : ∀ B' lb' cb' w', Ext [] w1 w' → lb' ≤ m + 1 → w'.ownsRow w1.heap.size 3 1 (.slice B' lb' cb') lb' (ints .i64 (inside N (t.xs.take (m + 1)))) →
        (∃ m' : Nat, ((m + 1 : Nat) : Int) = m' ∧ m' ≤ t.la ∧ lb' ≤ m' ∧ Ext [] w1 w' ∧ w'.ownsRow w1.heap.size 3 1 (.slice B' lb' cb') lb' (ints .i64 (inside N (t.xs.take m')))) ∧ t.la - Int.toNat ((m + 1 : Nat) : Int) < t.la - Int.toNat (m : Int) :=
      fun B' lb' cb' w' e h1 h2 => ⟨⟨m + 1, rfl, by omega, h1, e, h2⟩, down (by omega)⟩
    rw [up64 m (by omega)]
    refine ⟨_, _, _, Hd.a (hd f3), when_dec ⟨by omega, by omega⟩ (Ints.at ha3 hml fun ad hc => ?_)⟩
    try rw [Int.toNat_natCast, Nat.mul_one]
    have skip : ∀ w', Ext [] w3 w' → ¬ (0 ≤ t.xs.getD m 0 ∧ t.xs.getD m 0 < (N : Int)) → w'.ownsRow w1.heap.size 3 1 (.slice A l c) l (ints .i64 (inside N (t.xs.take (m + 1)))) := fun w' e h => by
      rw [htk, inside_snoc, if_neg h]; exact own_ext own3 e (by simp)
    refine ⟨_, hc, sel_dec (fun h0 => ?_) (fun h0 => step _ _ _ _ e3.drew (by omega) (skip _ (Ext.refl _ _).drew fun h => h0 h.1))⟩
    refine ⟨_, _, _, Hd.a (hd f3), when_dec ⟨by omega, by omega⟩ (Ints.at ha3 hml fun ad hc => ⟨_, hc, _, Hd.n (hd f3), sel_dec (fun h1 => ?_) (fun h1 => step _ _ _ _ e3.drew (by omega) (skip _ (Ext.refl _ _).drew fun h => h1 (by rw [hN]; exact h.2)))⟩)⟩
    refine ⟨_, _, _, Hd.a (hd f3.drew), when_dec ⟨by omega, by omega⟩ (Ints.at (ha3.ext0 (Ext.refl _ _).drew) hml fun ad hc => ⟨_, hc, ?_⟩)⟩
    have own3d := own_ext own3 (Ext.refl [] w3).drew (by simp)
    obtain ⟨A', c', w', hrun, own', e'⟩ := app1 (P := Try.prog) (t := 25) (ty := 25) (e := 3) (bytes := 8) (z := .int .i64 0) (by kernel_rfl) (by kernel_rfl) rfl own3d (x := .int .i64 (t.xs.getD m 0)) rfl (e3.drew).size (by omega) (by omega)
    refine ⟨_, _, _, _, hrun, step _ _ _ _ (e3.drew.trans' e' fun x hx => .inr ((own_base own3d x hx).1)) (by omega) ?_⟩
    rw [htk, inside_snoc, if_pos ⟨h0, by rw [hN] at h1; exact h1⟩]
    exact own_snoc own'
  obtain rfl : m = t.la := by omega
  rw [List.take_of_length_le (by omega)] at own3
  obtain ⟨X, hX⟩ : ∃ X, X = inside N t.xs := ⟨_, rfl⟩
  rw [← hX] at own3
  have hXl : X.length = l := by have := own3.1; simpa using this
  have hXin : ∀ j, j < l → 0 ≤ X.getD j 0 ∧ X.getD j 0 < (N : Int) := fun j hj => by
    have hjl : j < X.length := by omega
    have hmem : X.getD j 0 ∈ X := by simp [List.getD_eq_getElem?_getD, hjl]
    have h2 : ∀ x ∈ X, 0 ≤ x ∧ x < (N : Int) := fun x hx => by
      rw [hX] at hx
      have := (List.mem_filter.1 hx).2
      simpa using this
    exact h2 _ hmem
  clear hX hge
  -- nine more
  refine ⟨fun B lb cb i w' => ∃ (m : Nat) (ys : List Int), i = m ∧ m ≤ 9 ∧ lb = l + m ∧ Ext [] w1 w' ∧ w'.ownsRow w1.heap.size 3 1 (.slice B lb cb) lb (ints .i64 (X ++ ys)), fun _ _ _ i _ => 9 - i.toNat, ⟨0, [], rfl, by omega, rfl, e3, by simpa using own3⟩, ?_⟩
  rintro B _ cb _ _ w4 ⟨m, ys, rfl, hm, rfl, e4, own4⟩
  have f4 := e1.trans e4
  refine sel_dec (fun hlt => ?_) (fun hge => ?_)
  · obtain ⟨A', c', w', hrun, own', e'⟩ := app1 (P := Try.prog) (t := 25) (ty := 25) (e := 3) (bytes := 8) (z := .int .i64 0) (by kernel_rfl) (by kernel_rfl) rfl own4 (x := .int .i64 (IntKind.wrap .i64 (-7 - (m : Int)))) rfl e4.size (by omega) (by omega)
    refine ⟨_, _, _, _, hrun, ⟨m + 1, ys ++ [IntKind.wrap .i64 (-7 - (m : Int))], up64 m (by omega), by omega, by omega, e4.trans' e' fun x hx => .inr ((own_base own4 x hx).1), ?_⟩, by rw [up64 m (by omega)]; exact down (by omega)⟩
    rw [← List.append_assoc]
    exact own_snoc own'
  obtain rfl : m = 9 := by omega
  have hB := own_base own4
  have i4 := own_ints own4
  have hcb : l + 9 ≤ cb := by
    rcases own4.2 with ⟨_, h0⟩ | ⟨g, cap, cur, hv, _, _, hc, _⟩
    · omega
    · injection hv with _ _ hcc; omega
  obtain ⟨adB, hBs⟩ : ∃ ad, B = some ad := by obtain ⟨ad, h, _⟩ := i4.cells 0 (by omega); exact ⟨ad, h⟩
  refine ints_c i4 (by omega) fun A5 c5 w5 e5 own5 => ⟨_, _, _, rfl, ?_⟩
  have f5 := f4.trans e5
  have icut : ∀ {w' : World}, Ext [] w4 w' → Ints w' .i64 (V.cut B cb 0 1) l X := fun e => by
    have := cut_zero B (c := cb) hBs (i4.ext0 e) l (by omega) hcb
    rwa [List.take_append_of_le_length (by omega), List.take_of_length_le (by omega)] at this
  refine ⟨fun w' => Blk w' W.heap.size t.cells, hd f5.drew, _, fun _ h => Hd.n h, when_dec ⟨by omega, by omega⟩ ?_⟩
  rw [hN, Nat.sub_zero]
  have bad : ∀ j, j < l → (X.getD j 0 < 0 ∨ (N : Int) ≤ X.getD j 0) → False := fun j hj h => by have := hXin j hj; omega
  have f5d := f5.drew
  have k5 := e5.drew
  refine From_c hN6 (icut k5) (by omega) (fun j w' hj hb _ => (bad j hj hb).elim) (fun ps bs w6 S _ e6 hps hbs sS nS mS => ⟨_, _, rfl, hd (f5d.trans e6), ?_⟩)
  have f6 := f5d.trans e6
  have k6 := k5.trans e6
  refine ⟨fun w' => Blk w' W.heap.size t.cells, hd f6.drew, _, fun _ h => Hd.n h, when_dec ⟨by omega, by omega⟩ ?_⟩
  rw [hN, Nat.sub_zero]
  have f6d := f6.drew
  have k6d := k6.drew
  refine From_c hN6 (icut k6d) (by omega) (fun j w' hj hb _ => (bad j hj hb).elim) (fun pa ba w7 S' _ e7 hpa hba sA nA mA => ⟨_, _, rfl, hd (f6d.trans e7), ?_⟩)
  have oS := sS.ok
  obtain rfl : S' = S := SetV.ext_mem sA.ok oS (nA.trans nS.symm) fun i => by rw [mA, mS]
  have f7 := f6d.trans e7
  have k7 := k6d.trans e7
  refine ⟨_, Hd.n (hd f7), _, _, _, Hd.b (hd f7), ?_⟩
  rw [hN]
  refine of_c hN6 ((ht.b.ext0 e0).ext0 f7) (by have := ht.bl; omega) fun pt bt w8 T e8 hpt hbt sT nT mT => ⟨_, rfl, ?_⟩
  have f8 := f7.trans e8
  have k8 := k7.trans e8
  obtain ⟨w9, hw9⟩ : ∃ w9, w9 = w8.alloc (.cells #[.pointer (some ⟨ps, 0, none⟩), .pointer (some ⟨pa, 0, none⟩), .pointer (some ⟨pt, 0, none⟩)] 30) := ⟨_, rfl⟩
  have e9 : Ext [] w8 w9 := by rw [hw9]; exact (Ext.refl _ _).alloc _
  have bl9 : Blk w9 w8.heap.size [.pointer (some ⟨ps, 0, none⟩), .pointer (some ⟨pa, 0, none⟩), .pointer (some ⟨pt, 0, none⟩)] := by rw [hw9]; exact Blk.new _ _ _
  rw [← hw9]
  refine all_c [⟨ps, 0, none⟩, ⟨pa, 0, none⟩, ⟨pt, 0, none⟩] (l := 3) bl9 rfl (by omega) ⟨_, rfl, sel_false rfl ?_⟩
  have sS9 := (((sS.drew).ext0 e7).ext0 e8).ext0 e9
  have sA9 := (sA.ext0 e8).ext0 e9
  have sT9 := sT.ext0 e9
  have f9 := f8.trans e9
  have k9 := k8.trans e9
  have oT := sT.ok
  have cS := count_le oS
  have cT := count_le oT
  have z5 := e5.size
  have z5d : w5.drew.heap.size = w5.heap.size := rfl
  have z6 := e6.size
  have z6d : w6.drew.heap.size = w6.heap.size := rfl
  have z7 := e7.size
  have z8 := e8.size
  have z9 := e9.size
  have hs9 := sS.hdr.lt
  have hs9b := sS.wrd.lt
  have ha9 := sA.hdr.lt
  have ha9b := sA.wrd.lt
  have ht9 := sT.hdr.lt
  have ht9b := sT.wrd.lt
  have same : ∀ {w' : World} {A B : Option Addr} {c d : Nat} {Q : Bool → World → Prop} {xs ys : List Int} {m n : Nat}, Ints w' .i64 A m xs → Ints w' .i64 B n ys → xs = ys → m < 4611686018427387904 → (∀ w'', Ext [] w' w'' → Q true w'') →
      Calls Try.prog 18 #[.slice A m c, .slice B n d] w' fun e2 w2 => ∃ b, e2 = .returned (.bool b) ∧ Q b w2 := fun h1 h2 he hm hQ =>
    SameInts_c h1 h2 hm fun w'' e => ⟨_, rfl, by simp only [he, decide_true]; exact hQ w'' e⟩
  have i5 := own_ints own5
  refine same (i4.ext0 k9) (i5.ext0 (((((Ext.refl [] w5).drew.trans e6).drew.trans e7).trans e8).trans e9)) rfl (by omega) fun w10 e10 => sel_false rfl ?_
  have f10 := f9.trans e10
  have k10 := k9.trans e10
  have hdd : Blk w10.drew W.heap.size t.cells := hd f10.drew
  refine ⟨fun w' => Blk w' W.heap.size t.cells, hdd, _, fun _ h => Hd.n h, when_dec ⟨by omega, by omega⟩ ?_⟩
  rw [hN]
  try rw [Nat.sub_zero]
  have f10d := f10.drew
  have k10d := k10.drew
  have z10 := e10.size
  have z10d : w10.drew.heap.size = w10.heap.size := rfl
  refine set_c hN6 (icut k10d) (by omega) hXin fun M ml mc w11 e11 own11 => ⟨_, _, _, _, rfl, hd (f10d.trans e11), ?_⟩
  have hmi : S'.mi = placed N X := mi_placed nS mS
  have hml : ml = S'.count := by have := own11.1; simp at this; rw [← this, ← hmi, mi_length]
  subst hml
  refine MembersRef_c (own_ints own11) (by omega) fun A12 c12 w12 e12 own12 => ⟨_, _, _, rfl, hd ((f10d.trans e11).trans e12), ?_⟩
  rw [← hmi] at own12
  have f12 := (f10d.trans e11).trans e12
  have k12 := (k10d.trans e11).trans e12
  have z11 := e11.size
  have z12 := e12.size
  have g12 : Ext [] w9 w12 := ((e10.drew).trans e11).trans e12
  refine Members_c (sT9.ext0 g12).ref fun A13 c13 w13 e13 own13 => ⟨_, _, _, rfl, hd (f12.trans e13), ?_⟩
  have f13 := f12.trans e13
  have k13 := k12.trans e13
  have g13 := g12.trans e13
  have z13 := e13.size
  have own4' : Own w13 3 .i64 B (l + 9) cb (X ++ ys) := (Own.of own4).ext k13 (by simp)
  refine ⟨fun i w' => ∃ (m : Nat) (zs : List Int), i = m ∧ m ≤ l + 9 ∧ Ext (ownF B) w13 w' ∧ Own w' 3 .i64 B (l + 9) cb zs, fun i _ => l + 9 - i.toNat, ⟨0, _, rfl, by omega, Ext.refl _ _, own4'⟩, ?_⟩
  rintro _ _ w14 ⟨m, zs, rfl, hm, e14, own14⟩
  refine sel_dec (fun hlt => ?_) (fun hge => ?_)
  · have hmn : m < l + 9 := by omega
    obtain ⟨g, hAg, hcell, hfro, hown⟩ := own14.set hmn 0
    refine when_dec ⟨by omega, by omega⟩ ?_
    rw [hAg]
    refine ptr_in ?_
    simp only [Int.toNat_natCast, Nat.mul_one, Addr.addAdd]
    rw [up64 m (by omega)]
    refine ⟨hcell, hfro, ⟨m + 1, zs.set m 0, rfl, by omega, ?_, ?_⟩, down (by omega)⟩
    · rw [← hAg]; exact e14.setCell _ _ (.inl (by rw [hAg]; simp [ownF]))
    · first | exact hown | (rw [← hAg]; exact hown)
  have z1 := e4.size
  have hBlt : ∀ b ∈ ownF B, w1.heap.size ≤ b ∧ b < w4.heap.size := hB
  have f14 : Ext [] W0 w14 := f13.trans' e14 fun x hx => .inr (by have := (hBlt x hx).1; have := e1.size; omega)
  have sS14 := (sS9.ext0 g13).ext e14 (fun h => by have := (hBlt _ h).2; omega) (fun h => by have := (hBlt _ h).2; omega)
  have sA14 := (sA9.ext0 g13).ext e14 (fun h => by have := (hBlt _ h).2; omega) (fun h => by have := (hBlt _ h).2; omega)
  have sT14 := (sT9.ext0 g13).ext e14 (fun h => by have := (hBlt _ h).2; omega) (fun h => by have := (hBlt _ h).2; omega)
  have b12 := own_base own12
  have b13 := own_base own13
  have own12' : Own w14 3 .i64 A12 S'.count c12 S'.mi := ((Own.of own12).ext e13 (by simp)).ext e14 fun b hb h => by have := (hBlt _ h).2; have := (b12 b hb).1; omega
  have own13' : Own w14 3 .i64 A13 T.count c13 T.mi := (Own.of own13).ext e14 fun b hb h => by have := (hBlt _ h).2; have := (b13 b hb).1; omega
  have z14 := e14.size
  refine Members_c sS14.ref fun A15 c15 w15 e15 own15 => ⟨_, _, _, rfl, ?_⟩
  have z15 := e15.size
  refine Members_c (sS14.ext0 e15).ref fun A16 c16 w16 e16 own16 => ⟨_, _, _, rfl, ?_⟩
  have z16 := e16.size
  have g16 := e15.trans e16
  refine Members_c (sA14.ext0 g16).ref fun A17 c17 w17 e17 own17 => ⟨_, _, _, rfl, ?_⟩
  have z17 := e17.size
  have g17 := g16.trans e17
  refine Members_c (sT14.ext0 g17).ref fun A18 c18 w18 e18 own18 => ⟨_, _, _, rfl, ?_⟩
  have z18 := e18.size
  have g18 := g17.trans e18
  have h15 : Ext [] w15 w18 := (e16.trans e17).trans e18
  have h16 : Ext [] w16 w18 := e17.trans e18
  refine same ((own_ints own15).ext0 h15) (own12'.read.ext0 g18) rfl (by omega) fun w19 e19 => sel_false rfl ?_
  have g19 := g18.trans e19
  refine same ((own_ints own16).ext0 (h16.trans e19)) (own12'.read.ext0 g19) rfl (by omega) fun w20 e20 => sel_false rfl ?_
  have g20 := g19.trans e20
  refine same ((own_ints own17).ext0 ((e18.trans e19).trans e20)) (own12'.read.ext0 g20) rfl (by omega) fun w21 e21 => sel_false rfl ?_
  have g21 := g20.trans e21
  refine same ((own_ints own18).ext0 ((e19.trans e20).trans e21)) (own13'.read.ext0 g21) rfl (by omega) fun w22 e22 => sel_false rfl ?_
  have g22 := g21.trans e22
  have q18 : Ext [] w18 w22 := ((e19.trans e20).trans e21).trans e22
  have z22 := q18.size
  obtain ⟨w23, hw23⟩ : ∃ w23, w23 = w22.alloc (.cells #[.slice A15 S'.count c15, .slice A16 S'.count c16, .slice A13 T.count c13, .slice A17 S'.count c17, .slice A18 T.count c18] 25) := ⟨_, rfl⟩
  have e23 : Ext [] w22 w23 := by rw [hw23]; exact (Ext.refl _ _).alloc _
  have bl23 : Blk w23 w22.heap.size [.slice A15 S'.count c15, .slice A16 S'.count c16, .slice A13 T.count c13, .slice A17 S'.count c17, .slice A18 T.count c18] := by rw [hw23]; exact Blk.new _ _ _
  rw [← hw23]
  have q23 := q18.trans e23
  have z23 := e23.size
  have b15 := own_base own15
  have b16 := own_base own16
  have b17 := own_base own17
  have b18 := own_base own18
  have five : ∀ j, j < 5 → j = 0 ∨ j = 1 ∨ j = 2 ∨ j = 3 ∨ j = 4 := fun j hj => by omega
  have rng : ∀ j, j < 5 → ∀ x ∈ ownF ([A15, A16, A13, A17, A18].getD j none), [w14.heap.size, w15.heap.size, w12.heap.size, w16.heap.size, w17.heap.size].getD j 0 ≤ x ∧ x < [w15.heap.size, w16.heap.size, w13.heap.size, w17.heap.size, w18.heap.size].getD j 0 := fun j hj x hx => by
    rcases five j hj with rfl | rfl | rfl | rfl | rfl
    · exact b15 x hx
    · exact b16 x hx
    · exact b13 x hx
    · exact b17 x hx
    · exact b18 x hx
  refine apartInts_c (K := 5) (A := fun j => [A15, A16, A13, A17, A18].getD j none) (n := fun j => [S'.count, S'.count, T.count, S'.count, T.count].getD j 0) (c := fun j => [c15, c16, c13, c17, c18].getD j 0) (f0 := fun j => [S'.mi, S'.mi, T.mi, S'.mi, T.mi].getD j []) (by omega) (fun j hj => ?_) bl23.lt (fun j hj => ?_) (fun i j hi hj hij x hx hx' => ?_) (fun j hj hx => ?_) (fun j hj => ?_) fun w24 e24 => ⟨_, rfl, sel_false rfl ?_⟩
  · rcases five j hj with rfl | rfl | rfl | rfl | rfl <;> exact bl23.cell rfl
  · rcases five j hj with rfl | rfl | rfl | rfl | rfl
    · exact (Own.of own15).ext (h15.trans q23) (by simp)
    · exact (Own.of own16).ext (h16.trans q23) (by simp)
    · exact own13'.ext (g18.trans q23) (by simp)
    · exact (Own.of own17).ext (e18.trans q23) (by simp)
    · exact (Own.of own18).ext q23 (by simp)
  · have r1 := rng i hi x hx
    have r2 := rng j hj x hx'
    rcases five i hi with rfl | rfl | rfl | rfl | rfl <;> rcases five j hj with rfl | rfl | rfl | rfl | rfl <;> simp at r1 r2 hij <;> omega
  · have r1 := rng j hj _ hx
    rcases five j hj with rfl | rfl | rfl | rfl | rfl <;> simp at r1 <;> omega
  · rcases five j hj with rfl | rfl | rfl | rfl | rfl <;> simp <;> omega
  have hfl : ∀ x ∈ flat 5 (fun j => [A15, A16, A13, A17, A18].getD j none), w12.heap.size ≤ x ∧ (x < w13.heap.size ∨ w14.heap.size ≤ x) := fun x hx => by
    obtain ⟨j, hj, h⟩ := mem_flat.1 hx
    have r1 := rng j hj x h
    rcases five j hj with rfl | rfl | rfl | rfl | rfl <;> simp at r1 <;> omega
  have f24 : Ext [] W0 w24 := ((f14.trans g18).trans q23).trans' e24 fun x hx => .inr (by have := (hfl x hx).1; have := f12.size; omega)
  have sS24 := ((sS14.ext0 g18).ext0 q23).ext e24 (fun h => by have := (hfl _ h).1; omega) (fun h => by have := (hfl _ h).1; omega)
  have i24 : Ints w24 .i64 A12 S'.count S'.mi := ((own12'.read.ext0 g18).ext0 q23).ext e24 fun ad had h => by
    have h1 := hfl _ h
    have h2 := b12 ad.block (by rw [had]; simp [ownF])
    omega
  refine Members_c sS24.ref fun A25 c25 w25 e25 own25 => ⟨_, _, _, rfl, ?_⟩
  refine same (own_ints own25) (i24.ext0 e25) rfl (by omega) fun w26 e26 => sel_true rfl ?_
  have f26 := (f24.trans e25).trans e26
  refine ⟨_, Hd.n (hd f26), ?_⟩
  rw [hN]
  exact wordLists_c ((sS24.ext0 e25).ext0 e26) nS fun w27 e27 => ⟨_, rfl, fin (f26.trans e27)⟩
theorem bitsetLists_lifted (os : Os) (started : os.Started) (H : Type) (enc : TypeId × Value → H) :
    ReturnsInHanded {} Try.checked os 4 .any (Rows.bitsetListsSpec.pre6 enc Try.prog Try.f4 Rows.bitsetListsRow.domain false) (Rows.bitsetListsSpec.post enc Try.prog Try.f4 false true false false) :=
  lift1 (C := Try.checked) (T := 27) (tb := 4) own (by kernel_rfl) Try.func4 (by kernel_rfl) (by kernel_rfl) Try.underlying4 rfl (fun _ _ => rfl) laidOut (by kernel_rfl) (of_decide_eq_true (by kernel_rfl)) os started H enc
    (fun W base v d p hok h hw => by
      obtain ⟨t, rfl, ht⟩ := open_three hok h hw
      exact bitsetListsW_c ht fun w' e => ⟨rfl, e.below⟩)
    (ChangeSpec.witness6 (enc := enc) (C := Try.checked) false ⟨#[], #[.agg #[.int .i64 0, .slice none 0 0, .slice none 0 0, .slice none 0 0]], []⟩ 8 (by kernel_rfl) (by kernel_rfl) (by kernel_rfl) (by kernel_rfl))
theorem bitsetLists_holds : Rows.BitsetListsSaid :=
  OpenClaim.holds_of_wide 4 Try.f4 rfl rfl rfl rfl rfl rfl rfl ⟨rfl, rfl, rfl, rfl, rfl⟩ rfl rfl rfl rfl rfl (by kernel_rfl) Try.func4 (by kernel_rfl)
    (of_decide_eq_true (by kernel_rfl)) (by unfold Func.isWrapper; first | (rw [if_pos (by decide +kernel)]; kernel_rfl) | (rw [if_neg (by decide +kernel)]; exact ⟨rfl, rfl⟩))
    (fun os started H enc _ => bitsetLists_lifted os started H enc)
end Go.Proofs.Ytbaglnffgbnekaa
