/- Whatever size and lists of places come in, where the library's table stands, berthlaw01.BitsetNil returns true and leaves what came in as it was. -/
import Derived.Test.YtbaglnffgbnekaaDoorS24
import Derived.Test.YtbaglnffgbnekaaDoorS25
import Derived.Test.YtbaglnffgbnekaaDoorS10
import Derived.Test.YtbaglnffgbnekaaDoorL1L
import Derived.Test.YtbaglnffgbnekaaDoorRows
import Derived.Test.YtbaglnffgbnekaaDoorTie
import Derived.Test.YtbaglnffgbnekaaDoorCards
import Derived.ProofKit
import Derived.LaidMore
import Derived.OpenShut
import Derived.Stop.Joined
import Derived.SevenTiedAt
import Derived.LaidHandle
set_option linter.unusedVariables false
set_option linter.unusedSimpArgs false
namespace Go.Proofs.YtbaglnffgbnekaaDoor
open Go Go.V Go.B
open Go.ChangeShapes Go.WideShapes Go.ChangeAt Go.RowKit

theorem nil_mem (i : Nat) : SetV.nil.mem i = false := by simp [SetV.mem, SetV.nil]
theorem nil_count : SetV.nil.count = 0 := by simp [SetV.count, SetV.nil, SetV.rank]
theorem nil_next {i r : Int} (h : NextV SetV.nil i r) : r = -1 := by
  rcases h with ⟨h, _⟩ | ⟨m, _, _, h, _⟩
  · exact h
  · rw [nil_mem] at h; cases h
theorem nil_prev {i r : Int} (h : PrevV SetV.nil i r) : r = -1 := by
  rcases h with ⟨h, _⟩ | ⟨m, _, _, h, _⟩
  · exact h
  · rw [nil_mem] at h; cases h
theorem nil_select {i r : Int} (h : SelectV SetV.nil i r) : r = -1 := by
  rcases h with ⟨h, _⟩ | ⟨m, _, h, _⟩
  · exact h
  · rw [nil_mem] at h; cases h
theorem nil_rank (i : Nat) : SetV.nil.rank i = 0 := by
  unfold SetV.rank
  rw [List.countP_eq_zero]
  intro x _
  simp [nil_mem]
theorem nil_has (i : Int) : SetV.nil.has i = false := by simp [SetV.has, nil_mem]
theorem count_none {S : SetV} (h : ∀ i, S.mem i = false) : S.count = 0 := by
  unfold SetV.count SetV.rank
  rw [List.countP_eq_zero]
  intro x _
  simp [h]
theorem count_zero {S : SetV} (o : S.Ok) : S.count = 0 ↔ ∀ i, S.mem i = false := by
  refine ⟨fun h i => ?_, count_none⟩
  cases hm : S.mem i with
  | false => rfl
  | true => have := rank_count o hm; omega
theorem Select_nil {w : World} {i : Int} {R : Ending → World → Prop} (k : R (.returned (.int .i64 (-1))) w) : Calls Tryd.prog 13 #[.pointer none, .int .i64 i] w R := by
  apply bitset_Set_Select_nf
  exact sel_true rfl k
theorem Words_nil {w : World} {R : Ending → World → Prop} (k : ∀ A c w', Ext [] w w' → R (.returned (.slice A 0 c)) w') : Calls Tryd.prog 25 #[.pointer none] w R := by
  apply bitset_Set_Words_nf
  exact Clone_c (RefAt.nil w) fun p bw w' e _ _ hs => ⟨_, rfl, ptr_in ⟨_, _, _, hs.words, k _ _ w' e⟩⟩
set_option maxRecDepth 4000 in
theorem bitsetNilW_c {t : Three} {w : World} (ht : t.In w) (hz : TzAt w) {R : Ending → World → Prop} (k : ∀ w', Ext [] w w' → R (.returned (.bool true)) w') : Calls Tryd.prog 4 #[t.val] w R := by
  unfold Three.val Three.cells
  apply berthlaw01_BitsetNil_nf
  intro w5 h5
  obtain ⟨b5, x5, z5⟩ := box_new (cs := t.cells) h5
  refine awake_c fun w9 e9' => ⟨_, rfl, sel_false rfl ?_⟩
  have e9 := x5.trans e9'
  have bx9 := b5.ext0 e9'
  refine ⟨_, cadd bx9 rfl, sized_c _ ⟨_, rfl, ?_⟩⟩
  by_cases hs : 0 ≤ t.n ∧ t.n ≤ 65536
  rotate_left
  · exact sel_true (by simp [hs]) (awake_c fun w18 e18 => ⟨_, rfl, k _ (e9.trans e18)⟩)
  obtain ⟨N, hN⟩ : ∃ N : Nat, t.n = N := ⟨t.n.toNat, by omega⟩
  have hN6 : N ≤ 65536 := by omega
  have hb := ht.bl
  have hal := ht.al
  refine sel_false (by simp [hs]) ⟨_, cadd bx9 rfl, _, _, _, cadd bx9 rfl, ?_⟩
  rw [hN]
  refine (Pool.empty (e := e9')).of hN6 ((ht.ext0 e9).a) (by omega) fun p0 q0 w23 A e23 P hAN hAm => ⟨_, rfl, sel_false rfl ?_⟩
  have bx23 := bx9.ext0 e23
  have e23' := e9.trans e23
  have hz23 := hz.ext0 e23'
  have oA : A.Ok := P.ok (some 0) (Nat.le_of_ble_eq_true rfl)
  have rn : ∀ w', RefAt w' none SetV.nil [] := fun w' => RefAt.nil w'
  refine ⟨fun j w' => w' = w23 ∧ ∃ m : Nat, j = m ∧ m ≤ t.lb, fun j _ => t.lb - j.toNat, ⟨rfl, 0, rfl, by omega⟩, ?_⟩
  rintro _ _ _ ⟨rfl, m, rfl, hm⟩
  rename_i w23
  refine ⟨_, _, _, cadd bx23 rfl, sel_dec (fun hlt => ?_) (fun _ => ?_)⟩
  · have hlt : m < t.lb := by omega
    refine ⟨_, _, _, cadd bx23 rfl, when_dec ⟨by omega, by omega⟩ (Ints.at (ht.ext0 e23').b hlt fun ad hc => ⟨t.ys.getD m 0, by rw [Int.toNat_natCast, Nat.mul_one]; exact hc, ?_⟩)⟩
    generalize t.ys.getD m 0 = y
    refine Has_c (rn _) y ⟨_, rfl, ?_⟩
    rw [nil_has]
    refine sel_false rfl (Next_c (rn _) hz23 y fun r1 h1 => ⟨_, rfl, sel_false (by simp [nil_next h1]) ?_⟩)
    refine Prev_c (rn _) y fun r2 h2 => ⟨_, rfl, sel_false (by simp [nil_prev h2]) ?_⟩
    refine Rank_c (rn _) y ⟨_, rfl, sel_false (by simp [nil_rank]) ?_⟩
    refine Select_nil ⟨_, rfl, sel_false (by simp) ?_⟩
    refine Add_nil ⟨_, rfl, sel_false rfl (Remove_nil ⟨_, rfl, sel_false rfl (Grow_nil ⟨_, rfl, num_c _ ⟨_, rfl, sel_false (by simp) ?_⟩⟩)⟩)⟩
    rw [w64 (x := (m : Int) + 1) (by omega) (by omega)]
    exact ⟨⟨rfl, m + 1, by omega, by omega⟩, by simp only []; omega⟩
  refine AndWith_nil ⟨rfl, OrWith_nil ⟨rfl, AndNotWith_nil ⟨rfl, Size_c (rn _) ⟨_, rfl, sel_false rfl (Count_c (rn _) ⟨_, rfl, sel_false (by rw [nil_count]; rfl) ?_⟩)⟩⟩⟩⟩
  refine Members_c (rn _) fun A1 c1 w74 e74 _ => ⟨_, _, _, rfl, sel_false (by rw [nil_count]; rfl) ?_⟩
  refine Words_nil fun A2 c2 w77 e77 => ⟨_, _, _, rfl, sel_false rfl ?_⟩
  refine walk_c (rn _) 1 fun A3 l3 c3 w80 e80 own80 => ⟨_, _, _, rfl, ?_⟩
  have hl3 : l3 = 0 := by
    have := own80.1
    have hmi : SetV.nil.mi = [] := rfl
    rw [hmi] at this
    simp [ints] at this
    omega
  subst hl3
  have e80' := (e74.trans e77).trans e80
  refine sel_false rfl ?_
  have P := P.step e80'
  refine P.Clone none trivial fun p1 q1 w83 P => ⟨_, rfl, ?_⟩
  refine P.And (some 0) none (k := ?_)
  intro p2 q2 w86 C2 P h2N h2m
  refine ⟨_, rfl, ?_⟩
  refine P.Or none (some 0) (k := ?_)
  intro p3 q3 w89 C3 P h3N h3m
  refine ⟨_, rfl, ?_⟩
  refine P.AndNot (some 0) none (k := ?_)
  intro p4 q4 w92 C4 P h4N h4m
  refine ⟨_, rfl, ?_⟩
  refine P.Xor none (some 0) (k := ?_)
  intro p5 q5 w95 C5 P h5N h5m
  refine ⟨_, rfl, ?_⟩
  refine P.Not (some 0) none (k := ?_)
  intro p6 q6 w98 C6 P h6N h6m
  have m2 : ∀ i, C2.mem i = false := fun i => (h2m i).trans (by show (_ && SetV.nil.mem i) = false; rw [nil_mem]; simp)
  have m3 : ∀ i, C3.mem i = A.mem i := fun i => (h3m i).trans (by show (SetV.nil.mem i || A.mem i) = _; rw [nil_mem]; simp)
  have m4 : ∀ i, C4.mem i = A.mem i := fun i => (h4m i).trans (by show (A.mem i && !SetV.nil.mem i) = _; rw [nil_mem]; simp)
  have m5 : ∀ i, C5.mem i = A.mem i := fun i => (h5m i).trans (by show (SetV.nil.mem i ^^ A.mem i) = _; rw [nil_mem]; simp)
  have n2 : C2.N = N := h2N.trans (by show max A.N 0 = N; omega)
  have n3 : C3.N = N := h3N.trans (by show max 0 A.N = N; omega)
  have n6 : C6.N = 0 := h6N
  have bx98 := b5.ext0 P.ext
  refine ⟨_, rfl, fun w' => Ext [] w98 w', (Ext.refl _ _).drew, fun w101 h101 => ?_⟩
  obtain ⟨b101', x101', z101⟩ := box_new (cs := [.pointer (some ⟨p1, 0, none⟩), .pointer (some ⟨p2, 0, none⟩), .pointer (some ⟨p3, 0, none⟩), .pointer (some ⟨p4, 0, none⟩), .pointer (some ⟨p5, 0, none⟩), .pointer (some ⟨p6, 0, none⟩)]) h101
  have x101 := x101'.undrew
  refine ⟨x101, all_c [⟨p1, 0, none⟩, ⟨p2, 0, none⟩, ⟨p3, 0, none⟩, ⟨p4, 0, none⟩, ⟨p5, 0, none⟩, ⟨p6, 0, none⟩] b101'.blk rfl (by simp) ⟨_, rfl, x101, sel_false rfl ?_⟩⟩
  have P := P.step x101
  refine P.Size (some 1) (k := ⟨_, rfl, x101, sel_false rfl ?_⟩)
  refine P.Size (some 6) (k := ⟨_, rfl, x101, sel_false ?_ ?_⟩)
  · show (((C6.N : Nat) : Int) != 0) = false
    rw [n6]; rfl
  refine ⟨_, fun w' e => cadd (bx98.ext0 e) rfl, P.Size (some 2) (k := ⟨_, rfl, x101, sel_false ?_ ?_⟩)⟩
  · show (((C2.N : Nat) : Int) != t.n) = false
    rw [n2, hN]; simp
  refine ⟨_, fun w' e => cadd (bx98.ext0 e) rfl, P.Size (some 3) (k := ⟨_, rfl, x101, sel_false ?_ ?_⟩)⟩
  · show (((C3.N : Nat) : Int) != t.n) = false
    rw [n3, hN]; simp
  refine P.Equal (some 3) (some 0) (k := fun t1 h1 => ⟨_, rfl, sel_false (by rw [h1.2 m3]; rfl) ?_⟩)
  refine P.Equal (some 4) (some 0) (k := fun t1 h1 => ⟨_, rfl, sel_false (by rw [h1.2 m4]; rfl) ?_⟩)
  refine P.Equal (some 5) (some 0) (k := fun t1 h1 => ⟨_, rfl, sel_false (by rw [h1.2 m5]; rfl) ?_⟩)
  refine P.Count (some 2) (k := ⟨_, rfl, sel_false ?_ ?_⟩)
  · show (((C2.count : Nat) : Int) != 0) = false
    rw [count_none m2]; rfl
  refine P.Not none (some 0) (k := ?_)
  intro p7 q7 w133 C7 P h7N h7m
  have m7 : ∀ i, C7.mem i = A.mem i := fun i => (h7m i).trans (by show (A.mem i && !SetV.nil.mem i) = _; rw [nil_mem]; simp)
  refine ⟨_, rfl, P.Equal (some 7) (some 0) (k := fun t1 h1 => ⟨_, rfl, sel_false (by rw [h1.2 m7]; rfl) ?_⟩)⟩
  refine P.AndNotWith 0 none (k := ?_)
  intro w138 D1 _ P d1N d1m
  have k1 : ∀ i, D1.mem i = A.mem i := fun i => (d1m i).trans (by show (A.mem i && !SetV.nil.mem i) = _; rw [nil_mem]; simp)
  refine ⟨rfl, P.OrWith 0 none (k := ?_)⟩
  intro w140 D2 _ P d2N d2m
  have k2 : ∀ i, D2.mem i = A.mem i := fun i => (d2m i).trans (by show (D1.mem i || (_ && SetV.nil.mem i)) = _; rw [nil_mem, k1]; simp)
  have oD : D2.Ok := P.ok (some 0) (Nat.le_of_ble_eq_true rfl)
  refine ⟨rfl, P.Equal (some 3) (some 0) (k := fun t1 h1 => ⟨_, rfl, sel_false (by rw [h1.2 fun i => (m3 i).trans (k2 i).symm]; rfl) ?_⟩)⟩
  refine Subset_c (P.ref none trivial) (P.ref (some 0) (Nat.le_of_ble_eq_true rfl)) fun t1 h1 => ⟨_, rfl, sel_false (by rw [h1.2 fun i hi => absurd ((nil_mem i).symm.trans hi) Bool.false_ne_true]; rfl) ?_⟩
  refine Meets_c (P.ref (some 0) (Nat.le_of_ble_eq_true rfl)) (P.ref none trivial) fun t1 h1 => ⟨_, rfl, sel_false ?_ ?_⟩
  · cases t1 with
    | false => rfl
    | true =>
      obtain ⟨i, _, hi⟩ := h1.1 rfl
      exact absurd ((nil_mem i).symm.trans hi) Bool.false_ne_true
  refine P.Equal (some 0) none (k := fun t1 h1 => ⟨_, rfl, P.Count (some 0) (k := ⟨_, rfl, sel_false ?_ ?_⟩)⟩)
  · have h1' : t1 = true ↔ ∀ i, D2.mem i = SetV.nil.mem i := h1
    have h2' : t1 = true ↔ D2.count = 0 := by
      rw [h1', count_zero oD]
      exact ⟨fun h i => by rw [h i, nil_mem], fun h i => by rw [h i, nil_mem]⟩
    show (!(t1 == (((D2.count : Nat) : Int) == 0))) = false
    cases t1 with
    | true => have := h2'.1 rfl; rw [this]; rfl
    | false =>
      have : D2.count ≠ 0 := fun h => by have := h2'.2 h; cases this
      have : (((D2.count : Nat) : Int) == 0) = false := by simp [this]
      rw [this]; rfl
  refine P.AndWith 0 none (k := ?_)
  intro w157 D3 _ P d3N d3m
  have k3 : ∀ i, D3.mem i = false := fun i => (d3m i).trans (by show (_ && SetV.nil.mem i) = _; rw [nil_mem]; simp)
  refine ⟨rfl, P.Count (some 0) (k := ⟨_, rfl, sel_true ?_ ?_⟩)⟩
  · show (((D3.count : Nat) : Int) == 0) = true
    rw [count_none k3]; rfl
  exact P.Equal none none (k := fun t1 h1 => ⟨_, rfl, by rw [h1.2 fun _ => rfl]; exact k _ (x5.trans P.ext)⟩)
/-! ### the library's table, and the tied card -/
theorem laid_tz {W : World} (h : laidMetH Tryd.prog Rows.bitsetNilRow.laid W) : TzAt W := by
  have h1 : laidMet Tryd.prog [("math/bits.deBruijn64tab", Go.Lib.tabData .u8 (Go.Lib.deBruijn64tab.map Int.ofNat))] W := by
    have := h
    rw [show Rows.bitsetNilRow.laid = [("math/bits.deBruijn64tab", Go.Lib.tabData .u8 (Go.Lib.deBruijn64tab.map Int.ofNat))] from rfl] at this
    rwa [MakeChecks.laidMetH_plain _ _ _ (by kernel_rfl)] at this
  have h2 := Go.Lib.tabIs_of_head (g := 0) (t := 75) (e := 5) (n := 64) (by kernel_rfl) (by kernel_rfl) (by kernel_rfl) (by kernel_rfl) (by kernel_rfl) (by kernel_rfl) h1
  intro j hj
  have := Go.Lib.TabIs.cell h2 (g := 0) (by kernel_rfl) j (by rw [List.length_map]; exact hj)
  rw [this]
  congr 2
  rw [List.getD_eq_getElem?_getD, List.getElem?_map, List.getElem?_eq_getElem hj, List.getD_eq_getElem?_getD, List.getElem?_eq_getElem hj]
  rfl
theorem door_met (os : Os) (args : Array Value) : laidMetH Tryd.prog Rows.bitsetNilRow.laid ((World.doorLaid Tryd.prog 4000 os).forCall (fun _ _ => 0) ⟨#[], args, []⟩).memory :=
  laidMetH_of_parts3 (fuel := 8) (laidMet_of_run' 8 (by kernel_rfl) (by kernel_rfl)) (by kernel_rfl) (by kernel_rfl)
theorem bitsetNil_lifted (os : Os) (started : os.Started) (H : Type) (enc : TypeId × Value → H) (F : Stop.Interp) :
    ReturnsInHanded {} Tryd.checked os 4 .any ((OpenSpec.ofChange Rows.bitsetNilSpec).preRow enc Tryd.prog Tryd.f4 Rows.bitsetNilRow.domain false Rows.bitsetNilRow.laid) (((OpenSpec.ofChange Rows.bitsetNilSpec).at F).post enc Tryd.prog Tryd.f4 false true false false) :=
  lift1L (C := Tryd.checked) (T := 24) (tb := 4) own (by kernel_rfl) Tryd.func4 (by kernel_rfl) (by kernel_rfl) Tryd.underlying4 rfl (fun _ _ => rfl) laidOut (by kernel_rfl) (of_decide_eq_true (by kernel_rfl)) os started H enc F
    (fun W base v d p hok h hw hL => by
      obtain ⟨t, rfl, ht⟩ := open_three hok h hw
      exact bitsetNilW_c ht (laid_tz hL) fun w' e => ⟨rfl, e.below⟩)
    (ChangeSpec.witness_shaped (enc := enc) (C := Tryd.checked) (os := os) (X := fun w _ => laidMetH Tryd.prog Rows.bitsetNilRow.laid w) false (World.doorLaid Tryd.prog 4000 os) #[.agg #[.int .i64 0, .slice none 0 0, .slice none 0 0, .slice none 0 0]] 8 rfl (World.shaped_of_RefB (by kernel_rfl) (by kernel_rfl)) (by kernel_rfl) (by kernel_rfl) (by kernel_rfl) (door_met os _))
theorem bitsetNil_holds : Rows.BitsetNilSaid :=
  OpenClaim.holds_of_cond 4 Tryd.f4 rfl rfl rfl rfl rfl rfl rfl ⟨rfl, rfl, rfl, rfl, rfl⟩ rfl rfl rfl rfl rfl (by kernel_rfl) Tryd.func4 (by kernel_rfl)
    (of_decide_eq_true (by kernel_rfl)) (by unfold Func.isWrapper; first | (rw [if_pos (by decide +kernel)]; kernel_rfl) | (rw [if_neg (by decide +kernel)]; exact ⟨rfl, rfl⟩))
    (fun os started H enc _ F0 => by rw [OpenClaim.pre_eq_preRow]; exact bitsetNil_lifted os started H enc F0)
theorem bitsetNil_card_holds : Rows.BitsetNilCardSaid :=
  Claim7.holds_tied_plain_at .later [] [.data] true (true, Rows.bitsetNilCard.stood.harness.2) false
    bitsetNil_holds (fun _ h => by cases h) (by kernel_rfl) (fun _ h => by cases h) bitsetNil_row_tie rfl ⟨rfl, rfl⟩ (by kernel_rfl) rfl
    (fun f fn hf hfn => by
      obtain rfl : f = 4 := Option.some.inj ((show Tryd.prog.funcNamed "berth/berthlaw01.BitsetNil" = some 4 by kernel_rfl).symm.trans hf) |>.symm
      obtain rfl : fn = Tryd.f4 := (Option.some.inj (Tryd.func4.symm.trans hfn)).symm
      exact ⟨by kernel_rfl, fun j t ht => by
        rw [Tryd.params4] at ht
        have hm : t ∈ [24] := by simpa using Array.mem_of_getElem? ht
        have hall : ([24].all fun u => !Tryd.prog.wantsStandIn u) = true := by kernel_rfl
        exact (show Tryd.prog.wantsStandIn t = false by simpa using List.all_eq_true.1 hall t hm)⟩)
    (by kernel_rfl)
end Go.Proofs.YtbaglnffgbnekaaDoor
