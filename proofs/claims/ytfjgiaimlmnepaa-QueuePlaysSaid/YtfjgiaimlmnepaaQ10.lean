/- What holds of every queue that was played; the queue taken down. -/
import Derived.Test.YtfjgiaimlmnepaaQ9
set_option linter.unusedVariables false
set_option linter.unusedSimpArgs false
namespace Go.Proofs.Ytfjgiaimlmnepaa
open Go Go.V Go.B

/-! ### what holds of every queue that was played -/
theorem At.inv {w : World} {B p : Nat} {f : List Nat} {s : QS} (h : At w B p f s) : ∃ m, QInv s.xs m s.next := by
  obtain ⟨r, A, n, c, m, q, i, rfl⟩ := h
  exact ⟨m, i⟩
theorem At.ext0 {w w' : World} {B p : Nat} {f : List Nat} {s : QS} (h : At w B p f s) (e : Ext [] w w') : At w' B p f s := QAt.ext0 h e
theorem At.ext {F : List Nat} {w w' : World} {B p : Nat} {f : List Nat} {s : QS} (h : At w B p f s) (e : Ext F w w') (hF : ∀ b ∈ f, b ∉ F) : At w' B p f s := QAt.ext h e hF
theorem At.lt {w : World} {B p : Nat} {f : List Nat} {s : QS} (h : At w B p f s) : ∀ b ∈ f, b < w.heap.size := QAt.lt h
/-- A pod that was never parked is awake. -/
def Few (s : QS) (N : Nat) : Prop := ∀ x ∈ s.xs, 0 ≤ x.tries ∧ x.tries ≤ N ∧ (x.tries = 0 → x.asleep = false ∧ x.til = 0)
theorem Few.step {s : QS} {N : Nat} (h : Few s N) (o : Op) : Few (stepV s o) (N + 1) := by
  have up : ∀ x ∈ s.xs, 0 ≤ x.tries ∧ x.tries ≤ ((N + 1 : Nat) : Int) ∧ (x.tries = 0 → x.asleep = false ∧ x.til = 0) := fun x hx => by
    have := h x hx
    exact ⟨this.1, by omega, this.2.2⟩
  unfold stepV
  split
  · unfold pushV
    split
    · exact up
    · split
      · exact up
      · split
        · exact up
        · intro x hx
          rcases mem_ins.1 hx with rfl | hx
          · exact ⟨by show (0 : Int) ≤ 0; omega, by show (0 : Int) ≤ _; omega, fun _ => ⟨rfl, rfl⟩⟩
          · exact up x hx
  · split
    · unfold takeV
      split
      · exact up
      · exact fun x hx => up x (List.mem_of_mem_eraseIdx hx)
    · split
      · unfold parkV
        split
        · exact up
        · rename_i j hj
          obtain ⟨hjl, hjn, _⟩ := List.findIdx?_eq_some_iff_getElem.1 hj
          split
          · exact up
          · intro x hx
            rcases List.mem_or_eq_of_mem_set hx with hx | rfl
            · exact up x hx
            · obtain ⟨y, hy⟩ : ∃ y, s.xs[j]? = some y := ⟨s.xs[j], List.getElem?_eq_getElem hjl⟩
              rw [getD_of hy]
              have := h y (List.mem_of_getElem? hy)
              unfold Wt.parked
              simp only []
              split <;> exact ⟨by omega, by omega, fun e => by omega⟩
      · split
        · intro x hx
          obtain ⟨y, hy, rfl⟩ := List.mem_map.1 hx
          have := up y hy
          exact ⟨this.1, this.2.1, fun e => ⟨rfl, (this.2.2 e).2⟩⟩
        · exact up
theorem Few.play {s : QS} {N : Nat} (h : Few s N) (ops : List Op) : Few (playV s ops) (N + ops.length) := by
  unfold playV
  induction ops generalizing s N with
  | nil => exact h
  | cons o ops ih =>
    have := ih (h.step o)
    simp only [List.foldl_cons, List.length_cons]
    rw [show N + (ops.length + 1) = N + 1 + ops.length by omega]
    exact this
theorem few (ops : List Op) : Few (playV ⟨[], 0⟩ ops) ops.length := by
  have := Few.play (s := ⟨[], 0⟩) (N := 0) (fun x hx => by simp at hx) ops
  simpa using this
def ready (now : Int) (x : Wt) : Bool := !x.asleep && decide (x.til ≤ now)
theorem readyV_some {xs : List Wt} {now : Int} {x : Wt} (h0 : 0 ≤ now) (h1 : now ≤ 1099511627776) (h : xs.find? (ready now) = some x) : readyV xs now = (x.name, true) := by
  unfold readyV
  rw [if_neg (by omega)]
  rw [show xs.find? (fun x => !x.asleep && decide (x.til ≤ now)) = some x from h]
theorem readyV_none {xs : List Wt} {now : Int} (h : xs.find? (ready now) = none) : readyV xs now = (ByteArray.empty, false) := by
  unfold readyV
  split
  · rfl
  · rw [show xs.find? (fun x => !x.asleep && decide (x.til ≤ now)) = none from h]
theorem find_idx {xs : List Wt} {P : Wt → Bool} {x : Wt} (h : xs.find? P = some x) : ∃ j, xs[j]? = some x ∧ P x = true ∧ ∀ (k : Nat) (y : Wt), xs[k]? = some y → k < j → P y = false := by
  obtain ⟨hp, us, bs, rfl, hno⟩ := List.find?_eq_some_iff_append.1 h
  refine ⟨us.length, by simp, hp, fun k y hk hkl => ?_⟩
  rw [List.getElem?_append_left hkl] at hk
  have := hno y (List.mem_of_getElem? hk)
  simpa using this
theorem get_eraseIdx {xs : List Wt} {j : Nat} {y : Wt} (h : y ∈ xs.eraseIdx j) : ∃ k, k ≠ j ∧ xs[k]? = some y := by
  obtain ⟨i, hi⟩ := List.mem_iff_getElem?.1 h
  rw [List.getElem?_eraseIdx] at hi
  split at hi
  · exact ⟨i, by omega, hi⟩
  · exact ⟨i + 1, by omega, hi⟩

/-! ### reading -/
theorem rowW {w : World} {A : Option Addr} {xs : List Wt} {n : Nat} (hc : Cells w A (flatW xs)) (hl : xs.length = n) {a : Nat} (ha : a < n) : ∃ x ad, xs[a]? = some x ∧ A = some ad ∧ cellsC (fun a v => w.cell? a = some v) (ad.add (Int.toNat (a : Int) * 6)) x.cells := by
  obtain ⟨x, hx⟩ : ∃ x, xs[a]? = some x := ⟨xs[a]'(by omega), List.getElem?_eq_getElem (by omega)⟩
  obtain ⟨ad, rfl, rd⟩ := WL.read hc hx
  exact ⟨x, ad, hx, rfl, by rw [Int.toNat_natCast]; exact rd⟩
theorem quiet_c {w : World} {A : Option Addr} {l : Nat} {xs : List Wt} (hc : Cells w A (flatW xs)) (hl : xs.length = l) (hq : ∀ x ∈ xs, ready 1099511627776 x = false) (hb : l < 4611686018427387904) {R : Ending → World → Prop} (k : R (Ending.returned (Value.bool true)) w) :
  ∃ I19 : Int → World → Prop, ∃ μ20 : Int → World → Nat, I19 0 w ∧
  ∀ i_21 (j22 : Nat → Value) (w23 : World), I19 i_21 w23 →
  (V.sel (decide (i_21 < ((l : Nat) : Int)))
  (V.when (decide ((0 : Int) ≤ i_21 ∧ (i_21 : Int) < ((l : Nat) : Int))) (V.ptr A fun a24 =>
  ∃ b25, World.cell? w23 (Addr.add (Addr.add a24 ((Int.toNat i_21) * 6)) 5) = some (Value.bool b25) ∧
  V.sel (!b25)
  (V.when (decide ((0 : Int) ≤ i_21 ∧ (i_21 : Int) < ((l : Nat) : Int))) (V.ptr A fun a26 =>
  ∃ n27, World.cell? w23 (Addr.add (Addr.add a26 ((Int.toNat i_21) * 6)) 4) = some (Value.int .i64 n27) ∧
  V.sel (decide (n27 ≤ 1099511627776))
  (R (Ending.returned (Value.bool false)) w23)
  (I19 (IntKind.wrap .i64 (i_21 + 1)) w23 ∧ μ20 (IntKind.wrap .i64 (i_21 + 1)) w23 < μ20 i_21 w23)))
  (I19 (IntKind.wrap .i64 (i_21 + 1)) w23 ∧ μ20 (IntKind.wrap .i64 (i_21 + 1)) w23 < μ20 i_21 w23)))
  (R (Ending.returned (Value.bool true)) w23)) := by
  refine ⟨fun t w' => ∃ a : Nat, t = a ∧ a ≤ l ∧ w' = w, fun t _ => l - t.toNat, ⟨0, rfl, by omega, rfl⟩, ?_⟩
  rintro _ _ w1 ⟨a, rfl, ha, rfl⟩
  refine sel_dec (fun hlt => ?_) (fun hge => k)
  obtain ⟨x, ad, hx, rfl, rd⟩ := rowW hc hl (a := a) (by omega)
  have step : (∃ a' : Nat, IntKind.wrap .i64 ((a : Int) + 1) = a' ∧ a' ≤ l ∧ w1 = w1) ∧ l - (IntKind.wrap .i64 ((a : Int) + 1)).toNat < l - (a : Int).toNat := by
    rw [up64 a (by omega)]
    exact ⟨⟨a + 1, rfl, by omega, rfl⟩, by simp only [Int.toNat_natCast]; omega⟩
  have hr := hq x (List.mem_of_getElem? hx)
  refine when_dec ⟨by omega, by omega⟩ (ptr_in ⟨_, rd 5 _ rfl, sel_intro (fun h => ?_) (fun h => step)⟩)
  refine when_dec ⟨by omega, by omega⟩ (ptr_in ⟨_, rd 4 _ rfl, sel_dec (fun h2 => ?_) (fun h2 => step)⟩)
  unfold ready at hr
  rw [h, decide_eq_true h2] at hr
  cases hr

theorem down_c {w : World} {B p : Nat} {f : List Nat} {s : QS} (h : At w B p f s) {R : Ending → World → Prop} (k : ∀ w', Ext f w w' → R (.returned (.bool true)) w') : Calls Try.prog 25 #[.pointer (some ⟨p, 0, none⟩)] w R := by
  apply berthlaw25_down_nf
  obtain ⟨m0, i0⟩ := h.inv
  have hlen0 := i0.len
  refine Len_c h ⟨_, rfl, fun w5 h5 => ?_⟩
  obtain ⟨w6, hr6, b6, e6⟩ := wt_box (x := Wt.zero) h5
  have hblt := b6.lt
  have hbf : ∀ b ∈ f, b ≠ w.heap.size := fresh_ne h.lt
  refine ⟨w6, hr6, fun t w' => ∃ (a : Nat) (s' : QS) (y : Wt), t = a ∧ At w' B p f s' ∧ s'.xs.length + a = s.xs.length ∧ Ext f w w' ∧ BlkT w' w.heap.size y.cells 34 ∧ (0 < a → ∀ x ∈ s'.xs, ready 1099511627776 x = true → ahead y x = true),
    fun t _ => s.xs.length + 1 - t.toNat, ⟨0, s, Wt.zero, rfl, h.ext0 e6, by omega, Ext.up e6, b6, fun h => by omega⟩, ?_⟩
  rintro _ _ w1 ⟨a, s1, y, rfl, q1, hlen, e1, by1, hy⟩
  obtain ⟨m1, i1⟩ := q1.inv
  refine sel_dec (fun hle => ?_) (fun hgt => by omega)
  refine Ready_c q1 1099511627776 fun w2 e2 => ⟨_, _, rfl, ?_⟩
  have q2 := q1.ext0 e2
  cases hfd : s1.xs.find? (ready 1099511627776) with
  | none =>
    rw [readyV_none hfd]
    refine sel_true rfl (List_c q2 fun A c w3 e3 own3 => ⟨_, _, _, rfl, ?_⟩)
    exact quiet_c (own_cells own3) rfl (fun x hx => by have := List.find?_eq_none.1 hfd x hx; simpa using this) (by omega) (k w3 ((e1.then e2).then e3))
  | some x =>
    rw [readyV_some (by omega) (by omega) hfd]
    obtain ⟨j, hj, hrx, hlo⟩ := find_idx hfd
    have hxm : x ∈ s1.xs := List.mem_of_getElem? hj
    refine sel_false rfl (Take_c q2 x.name (fun hno w3 e3 => absurd rfl (hno x hxm)) (fun j' z hj' hz w3 q3 e3 => ?_))
    have hzx : z = x := nodup_uniq i1.names (List.mem_of_getElem? hj') hxm hz
    subst hzx
    have hjj : j' = j := by
      have h1 := idx_yes i1.names hj' rfl
      have h2 := idx_yes i1.names hj rfl
      rw [h1] at h2
      exact Option.some.inj h2
    subst hjj
    have hjl := (List.getElem?_eq_some_iff.1 hj).1
    have e13 : Ext f w w3 := (e1.then e2).trans e3
    have by3 := (by1.ext e2 (by simp)).ext e3 (fun hm => hbf _ hm rfl)
    refine ⟨_, _, _, _, _, _, _, rfl, fun w4 h4 => ?_⟩
    obtain ⟨w7, hr7, b7, e7⟩ := wt_box (x := z) h4
    have by7 := by3.ext e7 (by simp)
    have e17 := e13.then e7
    have has : z.asleep = false := by
      unfold ready at hrx
      simp at hrx
      exact hrx.1
    have hne : w3.heap.size ≠ w.heap.size := by have := by3.lt; omega
    refine ⟨w7, hr7, num_c _ ⟨_, rfl, sel_false rfl ⟨_, cadd b7 rfl, sel_false (by rw [beqBytes]; simp) ⟨_, cadd b7 rfl, sel_false has ?_⟩⟩⟩⟩
    have fin : ∀ w8, Ext [] w7 w8 → ∃ w9, Sem.run Try.prog (Instr.storeAt 34 (.pointer (some ⟨w.heap.size, 0, none⟩)) (.agg ⟨z.cells⟩)) w8 = .ok () w9 ∧
        (∃ (a' : Nat) (s' : QS) (y : Wt), IntKind.wrap .i64 ((a : Int) + 1) = a' ∧ At w9 B p f s' ∧ s'.xs.length + a' = s.xs.length ∧ Ext f w w9 ∧ BlkT w9 w.heap.size y.cells 34 ∧ (0 < a' → ∀ x ∈ s'.xs, ready 1099511627776 x = true → ahead y x = true)) ∧
        s.xs.length + 1 - (IntKind.wrap .i64 ((a : Int) + 1)).toNat < s.xs.length + 1 - (a : Int).toNat := fun w8 e8 => by
      obtain ⟨w9, hr9, b9, e9⟩ := storeW (P := Try.prog) (t := 34) (n := 6) (vs := z.cells) i34s (by7.ext e8 (by simp)) rfl rfl (WL.one z)
      rw [up64 a (by omega)]
      refine ⟨w9, hr9, ⟨a + 1, ⟨s1.xs.eraseIdx j', s1.next⟩, z, rfl, ?_, ?_, ?_, b9, fun _ u hu hru => ?_⟩, by simp only [Int.toNat_natCast]; omega⟩
      · exact ((At.ext0 (s := ⟨s1.xs.eraseIdx j', s1.next⟩) q3 e7).ext0 e8).ext e9 (fun b hb => by simp; exact hbf b hb)
      · show (s1.xs.eraseIdx j').length + (a + 1) = s.xs.length
        rw [List.length_eraseIdx_of_lt hjl]; omega
      · exact (e17.then e8).trans' e9 (fun b hb => .inr (by simp at hb; omega))
      · obtain ⟨kk, hkj, hku⟩ := get_eraseIdx hu
        by_cases hlt : kk < j'
        · rw [hlo kk u hku hlt] at hru; cases hru
        · exact i1.sorted.get hj hku (by omega)
    refine sel_dec (fun hpos => ?_) (fun hz => ?_)
    · refine ⟨_, _, _, _, _, _, cadd0 by7, _, _, _, _, _, _, cadd0 b7, lawAhead_c y z fun w8 e8 => ⟨_, rfl, sel_false (by rw [hy (by omega) z hxm hrx]; rfl) ⟨_, _, _, _, _, _, cadd0 (b7.ext e8 (by simp)), fin w8 e8⟩⟩⟩
    · exact ⟨_, _, _, _, _, _, cadd0 b7, fin w7 (Ext.refl _ _)⟩
end Go.Proofs.Ytfjgiaimlmnepaa
