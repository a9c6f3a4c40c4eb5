/- SlotsFills: whatever number and list come in, where the powers of ten stand, a table takes just as many names as it can hold, and one for each that goes. -/
import Derived.Test.YtcampkaenlohbaaDoorF1
import Derived.Test.YtcampkaenlohbaaDoorK5
import Derived.Test.YtcampkaenlohbaaDoorL2L
import Derived.Test.YtcampkaenlohbaaDoorRows
import Derived.Test.YtcampkaenlohbaaDoorTie
import Derived.Test.YtcampkaenlohbaaDoorCards
import Derived.ProofKit
import Derived.LaidMore
import Derived.OpenShut
import Derived.Stop.Joined
import Derived.SevenTiedAt
import Derived.LaidHandle
set_option linter.unusedVariables false
set_option linter.unusedSimpArgs false
namespace Go.Proofs.YtcampkaenlohbaaDoor
open Go Go.V Go.B
open Go.ChangeShapes Go.WideShapes Go.ChangeAt Go.RowKit

theorem own : ownKnob Tryd.prog.godebug = none := by kernel_rfl
theorem laidOut : laidOutB Tryd.prog = true := by kernel_rfl
theorem nm_fit (i : Nat) (h : i < 300) : ByteArray.size ⟨#[110]⟩ + ByteArray.size ⟨(Go.Lib.itoa (i : Int)).toArray⟩ ≤ 9223372036854775807 := by
  have h1 := nm_good h
  have h2 : (nm i).size = ByteArray.size ⟨#[110]⟩ + ByteArray.size ⟨(Go.Lib.itoa (i : Int)).toArray⟩ := by unfold nm; exact ByteArray.size_append
  unfold badN at h1
  omega
set_option maxRecDepth 8000 in
theorem slotsFillsW_c {w : World} (most : Int) {D : Option Addr} {l c : Nat} {xs : List Int} (hx : Ints w .i64 D l xs) (hl : l * 8 ≤ 140737488355328) (hp : Pow w) {R : Ending → World → Prop} (k : ∀ w', Ext [] w w' → R (.returned (.bool true)) w') :
    Calls Tryd.prog 3 #[.int .i64 most, .slice D l c] w R := by
  apply berthlaw05_SlotsFills_nf
  refine fixed_c fun w5 e5 => ⟨_, rfl, sel_false rfl ?_⟩
  refine New_c most (fun hbad => ?_) fun p f w9 h0 h1 e9 at9 hf => ?_
  · refine ⟨_, _, rfl, sel_dec (fun h => sel_true rfl (k _ e5)) (fun h => sel_dec (fun h2 => sel_true rfl (k _ e5)) (fun h2 => ?_))⟩
    omega
  refine ⟨_, _, rfl, sel_dec (fun h => by omega) (fun _ => sel_dec (fun h => by omega) (fun _ => sel_false rfl (sel_false rfl ?_)))⟩
  obtain ⟨M, rfl⟩ : ∃ M : Nat, most = M := ⟨most.toNat, by omega⟩
  rw [Int.toNat_natCast] at at9
  obtain ⟨n, hn, hn2, hnM, hn3⟩ : ∃ n : Nat, (if (200 : Int) < (M : Int) then (200 : Int) else (M : Int)) = (n : Int) ∧ n ≤ 200 ∧ n ≤ M ∧ (n < M → n = 200) := by
    by_cases h : (200 : Int) < (M : Int)
    · exact ⟨200, by rw [if_pos h]; rfl, by omega, by omega, fun _ => rfl⟩
    · exact ⟨M, by rw [if_neg h], by omega, by omega, by omega⟩
  rw [hn]
  have g9 := e5.trans e9
  have s5 := e5.size
  obtain ⟨St, hSt⟩ : ∃ St : Nat → World → Prop, St = fun i w' => Ext [] w w' ∧ ∃ f s, At w' w5.heap.size p f s ∧ (∀ b ∈ f, w.heap.size ≤ b) ∧ Full s i ∧ s.most = M := ⟨_, rfl⟩
  have stext : ∀ {i w1 w2}, Ext [] w1 w2 → St i w1 → St i w2 := fun e h => by
    rw [hSt] at h ⊢
    obtain ⟨g, f, s, a, b, c, d⟩ := h
    exact ⟨g.trans e, f, s, a.ext0 e, b, c, d⟩
  have stE : ∀ {i w1}, St i w1 → Ext [] w w1 := fun h => by rw [hSt] at h; exact h.1
  have num : ∀ {i : Nat} {w1 : World} {R : Ending → World → Prop} (j : Nat), j < 300 → St i w1 → (∀ w2, Ext [] w1 w2 → St i w2 → R (.returned (.string ⟨(Go.Lib.itoa (j : Int)).toArray⟩)) w2) → Calls Tryd.prog 9 #[.int .i64 (j : Int)] w1 R := fun j hj h kk =>
    Itoa_c (hp.ext0 (stE h)) j (by omega) fun w2 e2 => kk w2 e2 (stext e2 h)
  refine ⟨fun t w' => ∃ i : Nat, t = i ∧ i ≤ n ∧ St i w', fun t _ => n - t.toNat, ⟨0, rfl, by omega, ?_⟩, ?_⟩
  · rw [hSt]
    exact ⟨g9, f, _, at9, fun b hb => by have := hf b hb; omega, ⟨rfl, fun j hj => by omega⟩, rfl⟩
  rintro _ _ w14 ⟨i, rfl, hi, st14⟩
  refine sel_dec (fun hlt => ?_) (fun hge => ?_)
  · have hlt : i < n := by omega
    refine num i (by omega) st14 fun w17 e17 st17 => ⟨_, rfl, when_dec (nm_fit i (by omega)) ?_⟩
    rw [hSt] at st17
    obtain ⟨g17, f1, s1, a1, hf1, fl1, m1⟩ := st17
    obtain ⟨p1, p2, p3⟩ := fl1.put a1.inv (by omega) (by omega) (i : Int)
    refine Put_c a1 (nm i) (i : Int) fun w21 f2 a2 e21 gr2 => ?_
    rw [p1]
    have st21 : St (i + 1) w21 := by
      rw [hSt]
      exact ⟨g17.trans' e21 (fun b hb => .inr (hf1 b hb)), f2, _, a2, fun b hb => by
        rcases gr2 b hb with h | h
        · exact hf1 b h
        · have := g17.size; omega, p2, p3.trans m1⟩
    refine ⟨_, _, rfl, num i (by omega) st21 fun w24 e24 st24 => ⟨_, rfl, when_dec (nm_fit i (by omega)) ?_⟩⟩
    rw [hSt] at st24
    obtain ⟨g24, f3, s3, a3, hf3, fl3, m3⟩ := st24
    refine Put_c a3 (nm i) (i : Int) fun w28 f4 a4 e28 gr4 => ?_
    rw [fl3.again a3.inv (by omega) (by omega)] at a4 ⊢
    have hf4 : ∀ b ∈ f4, w.heap.size ≤ b := fun b hb => by
      rcases gr4 b hb with h | h
      · exact hf3 b h
      · have := g24.size; omega
    have g28 := g24.trans' e28 (fun b hb => .inr (hf3 b hb))
    refine ⟨_, _, rfl, Put_c a4 ByteArray.empty (i : Int) fun w32 f5 a5 e32 gr5 => ?_⟩
    rw [put_empty] at a5 ⊢
    refine ⟨_, _, rfl, sel_false (by simp) (sel_false rfl (sel_false rfl (sel_false rfl ?_)))⟩
    rw [up64 i (by omega)]
    refine ⟨⟨i + 1, rfl, by omega, ?_⟩, by simp only [Int.toNat_natCast]; omega⟩
    rw [hSt]
    exact ⟨g28.trans' e32 (fun b hb => .inr (hf4 b hb)), f5, _, a5, fun b hb => by
      rcases gr5 b hb with h | h
      · exact hf4 b h
      · have := g28.size; omega, fl3, m3⟩
  · have : i = n := by omega
    subst this
    refine sel_dec (fun hsm => ?_) (fun hbig => ?_)
    · rw [hSt] at st14
      obtain ⟨g14, f1, s1, a1, hf1, fl1, m1⟩ := st14
      refine Len_c a1 ⟨_, rfl, ?_⟩
      rw [fl1.cnt a1.inv, show (((i : Nat) : Int) == (i : Int)) = true by simp]
      exact k _ g14
    have hiM : i = M := by omega
    subst hiM
    refine ⟨fun t w' => ∃ a : Nat, t = a ∧ a ≤ l ∧ St i w', fun t _ => l - t.toNat, ⟨0, rfl, by omega, st14⟩, ?_⟩
    rintro _ _ w40 ⟨a, rfl, ha, st40⟩
    have fin : ∀ w', a < l → St i w' → (∃ a1 : Nat, IntKind.wrap .i64 ((a : Int) + 1) = (a1 : Int) ∧ a1 ≤ l ∧ St i w') ∧ l - (IntKind.wrap .i64 ((a : Int) + 1)).toNat < l - (a : Int).toNat := fun w' h1 h2 => by
      rw [up64 a (by omega)]
      exact ⟨⟨a + 1, rfl, by omega, h2⟩, by simp only [Int.toNat_natCast]; omega⟩
    refine sel_dec (fun hal => ?_) (fun _ => k _ (stE st40))
    have hal : a < l := by omega
    obtain ⟨ad, rfl, hc⟩ := (hx.ext0 (stE st40)).cells a hal
    refine when_dec ⟨by omega, by omega⟩ (ptr_in ⟨xs.getD a 0, by rw [Int.toNat_natCast, Nat.mul_one]; exact hc, ?_⟩)
    generalize xs.getD a 0 = z
    rw [hSt] at st40
    obtain ⟨g40, f1, s1, a1, hf1, fl1, m1⟩ := st40
    refine Put_c a1 more 0 fun w46 f2 a2 e46 gr2 => ?_
    rw [fl1.more a1.inv m1] at a2 ⊢
    have hf2 : ∀ b ∈ f2, w.heap.size ≤ b := fun b hb => by
      rcases gr2 b hb with h | h
      · exact hf1 b h
      · have := g40.size; omega
    have g46 := g40.trans' e46 (fun b hb => .inr (hf1 b hb))
    have st46 : St i w46 := by rw [hSt]; exact ⟨g46, f2, _, a2, hf2, fl1, m1⟩
    refine ⟨_, _, rfl, sel_false rfl (Len_c a2 ⟨_, rfl, sel_false (by rw [fl1.cnt a2.inv]; simp) (Span_c a2 ⟨_, rfl, sel_false (by rw [fl1.1]; simp) ?_⟩)⟩)⟩
    by_cases hi0 : i = 0
    · exact sel_true (by simp [hi0]) (fin _ hal st46)
    refine sel_false (by simp [hi0]) (when_dec (by omega) (when_dec (by omega) ?_))
    have hipos : 0 < (i : Int) := by omega
    have t1 := Int.tmod_lt_of_pos z hipos
    have t2 := Int.lt_tmod_of_pos z hipos
    rw [w64 (x := Int.tmod z (i : Int) + (i : Int)) (by omega) (by omega)]
    obtain ⟨d, hd, hdi⟩ : ∃ d : Nat, Int.tmod (Int.tmod z (i : Int) + (i : Int)) (i : Int) = (d : Int) ∧ d < i := by
      have u1 := Int.tmod_lt_of_pos (Int.tmod z (i : Int) + (i : Int)) hipos
      have u2 := Int.tmod_nonneg (i : Int) (show 0 ≤ Int.tmod z (i : Int) + (i : Int) by omega)
      exact ⟨(Int.tmod (Int.tmod z (i : Int) + (i : Int)) (i : Int)).toNat, by omega, by omega⟩
    refine lt_eq (y := (d : Int)) hd ?_
    refine num d (by omega) st46 fun w56 e56 st56 => ⟨_, rfl, when_dec (nm_fit d (by omega)) ?_⟩
    rw [hSt] at st56
    obtain ⟨g56, f3, s3, a3, hf3, fl3, m3⟩ := st56
    obtain ⟨q1, q2, q3⟩ := fl3.drop a3.inv hdi (by omega)
    refine Drop_c a3 (nm d) fun w60 a4 e60 => ?_
    rw [q1]
    have g60 := g56.trans' e60 (fun b hb => .inr (hf3 b hb))
    refine ⟨_, _, rfl, Itoa_c (hp.ext0 g60) d (by omega) fun w63 e63 => ⟨_, rfl, when_dec (nm_fit d (by omega)) ?_⟩⟩
    have g63 := g60.trans e63
    have a5 := a4.ext0 e63
    refine Put_c a5 (nm d) (d : Int) fun w67 f6 a6 e67 gr6 => ?_
    obtain ⟨r1, r2, r3⟩ := fl3.back m3 hdi (by omega) a5.inv q3 (q2.trans m3) (d : Int) a6.inv
    rw [r1]
    refine ⟨_, _, rfl, sel_false rfl (sel_false rfl (sel_false (by simp) (sel_false (by simp) (fin _ hal ?_))))⟩
    rw [hSt]
    exact ⟨g63.trans' e67 (fun b hb => .inr (hf3 b hb)), f6, _, a6, fun b hb => by
      rcases gr6 b hb with h | h
      · exact hf3 b h
      · have := g63.size; omega, r2, r3⟩
/-! ### the library's tables, and the tied card -/
theorem pow_data : (Rows.laid_internal_strconv_uint64pow10 : DataW Unit) = Go.Lib.tabData .u64 Go.Lib.pow10Tab := by kernel_rfl
theorem laid_pow {W : World} (h : laidMetH Tryd.prog Rows.slotsFillsRow.laid W) : Pow W := by
  rw [MakeChecks.laidMetH_plain _ _ _ (by kernel_rfl)] at h
  have h1 := Go.Lib.laidMet.reads h (n := "internal/strconv.uint64pow10") (d := Rows.laid_internal_strconv_uint64pow10) (.tail _ (.tail _ (.head _)))
  rw [pow_data] at h1
  obtain ⟨g, hg⟩ := pow_at
  exact tab_of_reads (g := 0) (t := 144) (e := 127) (n := 20) (by kernel_rfl) (by kernel_rfl) (by kernel_rfl) (by kernel_rfl) (by kernel_rfl) (by kernel_rfl) h1
theorem door_met (os : Os) (args : Array Value) : laidMetH Tryd.prog Rows.slotsFillsRow.laid ((World.doorLaid Tryd.prog 4000 os).forCall (fun _ _ => 0) ⟨#[], args, []⟩).memory :=
  laidMetH_of_parts3 (fuel := 8) (laidMet_of_run' 8 (by kernel_rfl) (by kernel_rfl)) (by kernel_rfl) (by kernel_rfl)
set_option maxRecDepth 8000 in
theorem slotsFills_lifted (os : Os) (started : os.Started) (H : Type) (enc : TypeId × Value → H) (F : Stop.Interp) :
    ReturnsInHanded {} Tryd.checked os 3 .any ((OpenSpec.ofChange Rows.slotsFillsSpec).preRow enc Tryd.prog Tryd.f3 Rows.slotsFillsRow.domain false Rows.slotsFillsRow.laid) (((OpenSpec.ofChange Rows.slotsFillsSpec).at F).post enc Tryd.prog Tryd.f3 false true false false) :=
  lift2L (C := Tryd.checked) (T := 3) (U := 22) (tb := 4) own (by kernel_rfl) Tryd.func3 (by kernel_rfl) (by kernel_rfl) Tryd.underlying4 rfl (fun _ _ _ => rfl) laidOut (by kernel_rfl) (of_decide_eq_true (by kernel_rfl)) (by kernel_rfl) (of_decide_eq_true (by kernel_rfl)) os started H enc F
    (fun W base v v' d d' p p' hok h hw hok' h' hw' hL => by
      obtain ⟨n, rfl, rfl, rfl, _⟩ := open_int Tryd.underlying3 hok h
      obtain ⟨a, l, c, rfl⟩ := Go.WideShapes.okWide_slice Tryd.underlying22 hok'
      obtain ⟨fuel, hf⟩ := h'
      have hf' : DataW.trod enc Tryd.prog W 0 (fun _ => true) true fuel 22 [.slice a l c] = some (d', p') := hf
      obtain ⟨A, l', c', xs, e, hx, hl⟩ := open_list Tryd.underlying22 Tryd.underlying3 (by kernel_rfl) (by kernel_rfl) hf' hw'
      cases e
      exact slotsFillsW_c n hx (by omega) (laid_pow hL) fun w' e => ⟨rfl, e.below⟩)
    (ChangeSpec.witness_shaped (enc := enc) (C := Tryd.checked) (os := os) (X := fun w _ => laidMetH Tryd.prog Rows.slotsFillsRow.laid w) false (World.doorLaid Tryd.prog 4000 os) #[.int .i64 0, .slice none 0 0] 8 rfl (World.shaped_of_RefB (by kernel_rfl) (by kernel_rfl)) (by kernel_rfl) (by kernel_rfl) (by kernel_rfl) (door_met os _))
theorem slotsFills_holds : Rows.SlotsFillsSaid :=
  OpenClaim.holds_of_cond 3 Tryd.f3 rfl rfl rfl rfl rfl rfl rfl ⟨rfl, rfl, rfl, rfl, rfl⟩ rfl rfl rfl rfl rfl (by kernel_rfl) Tryd.func3 (by kernel_rfl)
    (of_decide_eq_true (by kernel_rfl)) (by unfold Func.isWrapper; first | (rw [if_pos (by decide +kernel)]; kernel_rfl) | (rw [if_neg (by decide +kernel)]; exact ⟨rfl, rfl⟩))
    (fun os started H enc _ F0 => by rw [OpenClaim.pre_eq_preRow]; exact slotsFills_lifted os started H enc F0)
theorem slotsFills_card_holds : Rows.SlotsFillsCardSaid :=
  Claim7.holds_tied_plain_at .later [] [.data, .data, .data] true (true, Rows.slotsFillsCard.stood.harness.2) false
    slotsFills_holds (fun _ h => by cases h) (by kernel_rfl) (fun _ h => by cases h) slotsFills_row_tie rfl ⟨rfl, rfl⟩ (by kernel_rfl) rfl
    (fun f fn hf hfn => by
      obtain rfl : f = 3 := Option.some.inj ((show Tryd.prog.funcNamed "berth/berthlaw05.SlotsFills" = some 3 by kernel_rfl).symm.trans hf) |>.symm
      obtain rfl : fn = Tryd.f3 := (Option.some.inj (Tryd.func3.symm.trans hfn)).symm
      exact ⟨by kernel_rfl, fun j t ht => by
        rw [Tryd.params3] at ht
        have hm : t ∈ [3, 22] := by simpa using Array.mem_of_getElem? ht
        have hall : ([3, 22].all fun u => !Tryd.prog.wantsStandIn u) = true := by kernel_rfl
        exact (show Tryd.prog.wantsStandIn t = false by simpa using List.all_eq_true.1 hall t hm)⟩)
    (by kernel_rfl)
end Go.Proofs.YtcampkaenlohbaaDoor
