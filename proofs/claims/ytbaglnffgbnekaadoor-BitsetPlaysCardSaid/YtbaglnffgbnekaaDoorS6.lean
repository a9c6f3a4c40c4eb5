/- Sets made of lists of places and of words; the words of a set; greater universes. -/
import Derived.Test.YtbaglnffgbnekaaDoorS5
set_option linter.unusedVariables false
set_option linter.unusedSimpArgs false
namespace Go.Proofs.YtbaglnffgbnekaaDoor
open Go Go.V Go.B

theorem Ints.at {w : World} {k : IntKind} {A : Option Addr} {n : Nat} {xs : List Int} (h : Ints w k A n xs) {j : Nat} (hj : j < n) {K : Addr → Prop} (hk : ∀ ad : Addr, w.cell? (ad.add j) = some (.int k (xs.getD j 0)) → K ad) : V.ptr A K := by
  obtain ⟨ad, rfl, hc⟩ := h.cells j hj
  exact hk ad hc
theorem zeros_mem (n i : Nat) : (⟨n, List.replicate ((n + 63) / 64) 0⟩ : SetV).mem i = false := by
  unfold SetV.mem
  have : (List.replicate ((n + 63) / 64) 0).getD (i / 64) 0 = 0 := by
    simp only [List.getD_eq_getElem?_getD, List.getElem?_replicate]
    split <;> rfl
  simp only [this, Nat.zero_testBit]
theorem getD_take_succ (xs : List Int) (m : Nat) (hm : m < xs.length) : xs.take (m + 1) = xs.take m ++ [xs.getD m 0] := by
  rw [List.take_add_one]
  simp [List.getD_eq_getElem?_getD, hm]
theorem From_bad {n : Int} (h : n < 0 ∨ 65536 < n) {w : World} {A : Option Addr} {l c : Nat} {R : Ending → World → Prop} (k : R (.returned (.tuple #[.pointer none, .int .i64 11])) w) :
    Calls Tryd.prog 38 #[.int .i64 n, .slice A l c] w R := by
  apply bitset_From_nf
  exact New_bad h ⟨_, _, rfl, sel_true rfl k⟩
theorem From_c {n : Nat} (hn : n ≤ 65536) {w : World} {A : Option Addr} {l c : Nat} {xs : List Int} (hx : Ints w .i64 A l xs) (hl : l < 4611686018427387904) {R : Ending → World → Prop}
    (kbad : ∀ j w', j < l → (xs.getD j 0 < 0 ∨ (n : Int) ≤ xs.getD j 0) → Ext [] w w' → R (.returned (.tuple #[.pointer none, .int .i64 12])) w')
    (k : ∀ p bw w' C, (∀ x ∈ xs, 0 ≤ x ∧ x < (n : Int)) → Ext [] w w' → w.heap.size ≤ p → w.heap.size ≤ bw → SetAt w' p bw C → C.N = n → (∀ i : Nat, C.mem i = decide ((i : Int) ∈ xs)) → R (.returned (.tuple #[.pointer (some ⟨p, 0, none⟩), .int .i64 0])) w') :
    Calls Tryd.prog 38 #[.int .i64 (n : Int), .slice A l c] w R := by
  apply bitset_From_nf
  have hlen := hx.len
  refine New_ok hn fun p bw w1 e1 hp hbw hs => ⟨_, _, rfl, sel_false rfl ?_⟩
  refine ⟨fun t w' => ∃ (m : Nat) (C : SetV), t = m ∧ m ≤ l ∧ Ext [] w w' ∧ SetAt w' p bw C ∧ C.N = n ∧ (∀ x ∈ xs.take m, 0 ≤ x ∧ x < (n : Int)) ∧ (∀ i : Nat, C.mem i = decide ((i : Int) ∈ xs.take m)), fun t _ => l - t.toNat, ⟨0, _, rfl, by omega, e1, hs, rfl, by simp, fun i => by rw [zeros_mem]; simp⟩, ?_⟩
  rintro _ _ w2 ⟨m, C, rfl, hm, e2, hs2, rfl, hr, hmem⟩
  have hCl := hs2.ok.len
  refine sel_dec (fun hlt => ?_) (fun hge => ?_)
  · have hml : m < l := by omega
    refine when_dec ⟨by omega, by omega⟩ (Ints.at (hx.ext0 e2) hml fun ad hc => ?_)
    rw [Int.toNat_natCast, Nat.mul_one]
    refine ⟨_, hc, ?_⟩
    have htk := getD_take_succ xs m (by omega)
    refine sel_dec (fun hneg => kbad m w2 hml (.inl hneg) e2) (fun hneg => sel_dec (fun hbig => kbad m w2 hml (.inr hbig) e2) (fun hbig => ?_))
    obtain ⟨q, hq⟩ : ∃ q : Nat, xs.getD m 0 = q := ⟨(xs.getD m 0).toNat, by omega⟩
    rw [hq] at hc hneg hbig htk
    rw [hq]
    have e3 : IntKind.wrap .i64 (Int.tdiv (q : Int) 64) = ((q / 64 : Nat) : Int) := by rw [tdiv64, w64 (by omega) (by omega)]
    refine ptr_in ⟨_, _, _, hs2.words, ?_⟩
    simp only [e3, tmod64, Int.toNat_natCast, Nat.mul_one]
    refine when_dec ⟨by omega, by omega⟩ (ptr_in ⟨_, hs2.word (by omega), when_dec (by omega) (when_dec ⟨by omega, by omega⟩ (ptr_in ?_))⟩)
    rw [Addr.addAdd, shl1 _ (by omega), or64 (hs2.ok.lt _) (pow_lt64 (by omega)), up64 m (by omega)]
    have hsd := hs2.drew
    have hqn : q < C.N := by omega
    refine ⟨⟨_, hsd.wordAt (i := q / 64) (by omega)⟩, hsd.frozen _, ⟨m + 1, C.put q, rfl, by omega, e2.drew.setCell _ _ (.inr hbw), hsd.upd (q / 64) _ (put_ok hs2.ok hqn), rfl, ?_, ?_⟩, down (by omega)⟩
    · rw [htk]
      intro x hx'
      rcases List.mem_append.1 hx' with h' | h'
      · exact hr x h'
      · simp at h'; subst h'; omega
    · intro i
      rw [put_mem hs2.ok hqn i, hmem i, htk, Bool.eq_iff_iff]
      by_cases hin : (i : Int) ∈ xs.take m
      · simp [hin]
      · simp only [hin, List.mem_append, decide_false, Bool.false_or, decide_eq_true_eq, List.mem_singleton, false_or]; omega
  · obtain rfl : m = l := by omega
    rw [List.take_of_length_le (by omega)] at hr hmem
    exact k p bw w2 C hr e2 hp hbw hs2 rfl hmem

/-! ### FromWords, Words -/
theorem FromWords_bad {n : Int} (h : n < 0 ∨ 65536 < n) {w : World} {A : Option Addr} {l c : Nat} {R : Ending → World → Prop} (k : R (.returned (.tuple #[.pointer none, .int .i64 11])) w) :
    Calls Tryd.prog 64 #[.int .i64 n, .slice A l c] w R := by
  apply bitset_FromWords_nf
  exact New_bad h ⟨_, _, rfl, sel_true rfl k⟩
def wi (ws : List Nat) : List Int := ws.map Int.ofNat
theorem wi_get {ws : List Nat} {j : Nat} : (wi ws).getD j 0 = ((ws.getD j 0 : Nat) : Int) := by
  unfold wi
  simp only [List.getD_eq_getElem?_getD, List.getElem?_map]
  cases ws[j]? <;> rfl
theorem wcells_ints (ws : List Nat) : wcells ws = ints .u64 (wi ws) := by simp [wcells, ints, wi]
theorem FromWords_c {n : Nat} (hn : n ≤ 65536) {w : World} {A : Option Addr} {l c : Nat} {ws : List Nat} (hx : Ints w .u64 A l (wi ws)) (hw : ∀ j, ws.getD j 0 < 18446744073709551616) (hl : l < 4611686018427387904) {R : Ending → World → Prop}
    (klen : ∀ w', l ≠ (n + 63) / 64 → Ext [] w w' → R (.returned (.tuple #[.pointer none, .int .i64 14])) w')
    (kbad : ∀ w', l = (n + 63) / 64 → n % 64 ≠ 0 → ws.getD (l - 1) 0 >>> (n % 64) ≠ 0 → Ext [] w w' → R (.returned (.tuple #[.pointer none, .int .i64 12])) w')
    (k : ∀ p bw w', l = (n + 63) / 64 → Ext [] w w' → w.heap.size ≤ p → w.heap.size ≤ bw → SetAt w' p bw ⟨n, ws⟩ → R (.returned (.tuple #[.pointer (some ⟨p, 0, none⟩), .int .i64 0])) w') :
    Calls Tryd.prog 64 #[.int .i64 (n : Int), .slice A l c] w R := by
  apply bitset_FromWords_nf
  have hlen := hx.len
  have hlen' : ws.length = l := by rw [← hlen]; simp [wi]
  refine New_ok hn fun p bw w1 e1 hp hbw hs => ⟨_, _, rfl, sel_false rfl ?_⟩
  refine ptr_in ⟨_, _, _, hs.words, ?_⟩
  simp only [List.length_replicate]
  refine sel_intro (fun hne => klen w1 (fun e => by rw [e] at hne; simp at hne) e1) (fun heq => ?_)
  have hll : l = (n + 63) / 64 := Int.ofNat_inj.1 (bne_eq_false_iff_eq.1 heq)
  have copied : (∀ i, n ≤ i → (⟨n, ws⟩ : SetV).mem i = false) → V.ptr (some (⟨p, 0, none⟩ : Addr)) fun a15 => ∃ A16, ∃ A16l, ∃ A16c, w1.cell? (a15.add 1) = some (.slice A16 A16l A16c) ∧ ∃ n17, ∃ w18, Sem.run Tryd.prog (Builtin.copy_ #[38, 38] 3 #[.slice A16 A16l A16c, .slice A l c]) w1 = .ok (.int .i64 n17) w18 ∧
      R (.returned (.tuple #[.pointer (some ⟨p, 0, none⟩), .int .i64 0])) w18 := fun ht => by
    refine ptr_in ⟨_, _, _, hs.words, ?_⟩
    have hb := hs.wrd
    obtain ⟨w2, hr, hb2, e2⟩ := copyRow (P := Tryd.prog) (dT := 38) (sT := 38) (ty := 3) (e := 63) (cap := c) (by kernel_rfl) (by kernel_rfl) (nd := (n + 63) / 64) (cd := (n + 63) / 64) (Y := A) (ns := l) (ys := ints .u64 (wi ws)) hb (by simp [wcells]) (by simp [wi, hlen'])
      (by intro j u hj
          have hj' : j < l := by
            have := (List.getElem?_eq_some_iff.1 hj).1
            simp [wi, hlen'] at this; exact this
          obtain ⟨ad, ha, hc⟩ := (hx.ext0 e1).cells j hj'
          rw [ints_get (by rw [hlen]; exact hj')] at hj
          exact ⟨ad, ha, by rw [hc]; exact hj⟩)
      (by intro u hu
          obtain ⟨x, _, rfl⟩ := List.mem_map.1 hu
          rfl)
    simp only [List.length_replicate]
    refine ⟨_, _, hr, k p bw w2 hll (e1.trans' e2 (fun x hx => .inr (by simp at hx; subst hx; exact hbw))) hp hbw ?_⟩
    have hd := hs.hdr.ext e2 (by simp [hs.ne])
    refine ⟨?_, ?_, ⟨hn, by simp [hlen', hll], hw, ht⟩, hs.ne⟩
    · simpa [hlen', hll] using hd
    · rw [wcells_ints]
      have : (ints .u64 (wi ws)).take ((n + 63) / 64) ++ (wcells (List.replicate ((n + 63) / 64) 0)).drop (min l ((n + 63) / 64)) = ints .u64 (wi ws) := by
        rw [List.take_of_length_le (by simp [wi, hlen', hll]), List.drop_of_length_le (by simp [wcells, hll])]; simp
      rw [this] at hb2; exact hb2
  rw [tmod64]
  refine sel_intro (fun hne => ?_) (fun heq2 => ?_)
  · have hr : n % 64 ≠ 0 := fun e => by rw [e] at hne; simp at hne
    have e2 : IntKind.wrap .i64 ((l : Int) - 1) = ((l - 1 : Nat) : Int) := by rw [w64 (by omega) (by omega)]; omega
    simp only [e2]
    refine when_dec ⟨by omega, by omega⟩ (Ints.at (hx.ext0 e1) (show l - 1 < l by omega) fun ad hc => ?_)
    rw [Int.toNat_natCast, Nat.mul_one]
    rw [wi_get] at hc
    refine ⟨_, hc, when_dec (by omega) ?_⟩
    rw [Int.toNat_natCast, shr_nat _ _ (by omega)]
    refine sel_intro (fun hne2 => kbad w1 hll hr (fun e => by rw [e] at hne2; simp at hne2) e1) (fun heq3 => ?_)
    have hz : ws.getD (l - 1) 0 >>> (n % 64) = 0 := Int.ofNat_inj.1 (bne_eq_false_iff_eq.1 heq3)
    refine copied fun i hi => ?_
    unfold SetV.mem
    by_cases hk : i / 64 = l - 1
    · simp only [hk]
      have : (ws.getD (l - 1) 0).testBit (n % 64 + (i % 64 - n % 64)) = false := by
        rw [← Nat.testBit_shiftRight, hz]; simp
      rwa [show n % 64 + (i % 64 - n % 64) = i % 64 by omega] at this
    · have : ws.getD (i / 64) 0 = 0 := by
        simp [List.getD_eq_getElem?_getD, show ws.length ≤ i / 64 by omega]
      simp only [this, Nat.zero_testBit]
  · have hz : n % 64 = 0 := Int.ofNat_inj.1 (bne_eq_false_iff_eq.1 heq2)
    refine copied fun i hi => ?_
    unfold SetV.mem
    have : ws.getD (i / 64) 0 = 0 := by
      simp [List.getD_eq_getElem?_getD, show ws.length ≤ i / 64 by omega]
    simp only [this, Nat.zero_testBit]

/-! ### Grow -/
theorem Grow_nil {w : World} {n : Int} {R : Ending → World → Prop} (k : R (.returned (.int .i64 1)) w) : Calls Tryd.prog 21 #[.pointer none, .int .i64 n] w R := by
  apply bitset_Set_Grow_nf
  exact sel_true rfl k
def SetV.grow (S : SetV) (n : Nat) : SetV := ⟨n, S.ws ++ List.replicate ((n + 63) / 64 - S.ws.length) 0⟩
theorem grow_mem (S : SetV) (n i : Nat) : (S.grow n).mem i = S.mem i := by
  unfold SetV.mem SetV.grow
  congr 1
  simp only [List.getD_eq_getElem?_getD, List.getElem?_append, List.getElem?_replicate]
  by_cases h : i / 64 < S.ws.length
  · simp [h]
  · have : S.ws[i / 64]? = none := by simp; omega
    rw [if_neg h, this]
    split <;> rfl
theorem grow_ok {S : SetV} (h : S.Ok) {n : Nat} (hn : n ≤ 65536) (hS : S.N ≤ n) : (S.grow n).Ok := by
  have hl := h.len
  refine ⟨hn, by simp [SetV.grow, hl]; omega, fun i => ?_, fun i hi => ?_⟩
  · unfold SetV.grow
    have := h.lt i
    simp only [List.getD_eq_getElem?_getD, List.getElem?_append, List.getElem?_replicate] at this ⊢
    split
    · exact this
    · split <;> simp
  · rw [grow_mem]; exact h.tail i (by have : (S.grow n).N = n := rfl; omega)
theorem Grow_c {w : World} {p bw : Nat} {S : SetV} (hs : SetAt w p bw S) (n : Int) {R : Ending → World → Prop}
    (kbad : n < 0 ∨ 65536 < n → R (.returned (.int .i64 11)) w)
    (kless : 0 ≤ n → n < (S.N : Int) → R (.returned (.int .i64 13)) w)
    (k : ∀ bw' w' T, (S.N : Int) ≤ n → n ≤ 65536 → Ext [p] w w' → w.heap.size ≤ bw' → SetAt w' p bw' T → (T.N : Int) = n → (∀ i, T.mem i = S.mem i) → R (.returned (.int .i64 0)) w') :
    Calls Tryd.prog 21 #[.pointer (some ⟨p, 0, none⟩), .int .i64 n] w R := by
  apply bitset_Set_Grow_nf
  have hl := hs.ok.len
  refine sel_false rfl (sel_dec (fun h => kbad (.inl h)) (fun h0 => sel_dec (fun h => kbad (.inr h)) (fun h1 => ptr_in ⟨_, hs.size, sel_dec (fun h => kless (by omega) h) (fun h2 => ?_)⟩)))
  obtain ⟨n, rfl⟩ : ∃ m : Nat, n = m := ⟨n.toNat, by omega⟩
  refine wordCount_c n (by omega) ⟨_, rfl, when_dec ⟨by omega, by omega, by omega, by omega⟩ (ptr_in ?_)⟩
  rw [Int.toNat_natCast]
  have e0 : Ext [] w (w.alloc (.cells ⟨V.rep ((n + 63) / 64) [.int .u64 0]⟩ 63)) := (Ext.refl _ _).alloc _
  have h0' := hs.ext0 e0
  have hnb : BlkT (w.alloc (.cells ⟨V.rep ((n + 63) / 64) [.int .u64 0]⟩ 63)) w.heap.size (V.rep ((n + 63) / 64) [.int .u64 0]) 63 := BlkT.new _ _ _
  have hrep : (V.rep ((n + 63) / 64) [Value.int .u64 0]) = wcells (List.replicate ((n + 63) / 64) 0) := by simp [V.rep, wcells]
  have hplt := hs.hdr.lt
  obtain ⟨w2, hr, hb2, e2⟩ := copyRow (P := Tryd.prog) (dT := 38) (sT := 38) (ty := 3) (e := 63) (cap := S.ws.length) (by kernel_rfl) (by kernel_rfl) (nd := (n + 63) / 64) (cd := (n + 63) / 64) (Y := some ⟨bw, 0, none⟩) (ns := S.ws.length) (ys := wcells S.ws) hnb (by simp [V.rep]) (by simp [wcells])
      (by intro j u hj
          have hj' : j < S.ws.length := by
            have := (List.getElem?_eq_some_iff.1 hj).1
            simpa [wcells] using this
          rw [wcells_get hj'] at hj
          exact ⟨_, rfl, by rw [h0'.word hj']; exact hj⟩)
      (by intro u hu
          obtain ⟨x, _, rfl⟩ := List.mem_map.1 hu
          rfl)
  refine ⟨_, _, _, h0'.words, _, _, hr, ?_⟩
  have hpn : p ∉ [w.heap.size] := by simp; omega
  have hbn : bw ∉ [w.heap.size] := by have := hs.wrd.lt; simp; omega
  have hh2 := h0'.hdr.ext e2 hpn
  refine ptr_in ⟨?_, ?_, ptr_in ⟨?_, ?_, ?_⟩⟩
  · rw [Addr.addAdd]; exact ⟨_, hh2.cell (i := 1) rfl⟩
  · rw [Addr.addAdd]; exact hh2.frozen _
  · rw [Addr.addAdd, Addr.addAdd]; exact ⟨_, (hh2.set 1 _).cell (i := 0) rfl⟩
  · rw [Addr.addAdd, Addr.addAdd]; exact (hh2.set 1 _).frozen _
  · rw [Addr.addAdd, Addr.addAdd]
    refine k w.heap.size _ (S.grow n) (by omega) (by omega) ?_ (Nat.le_refl _) ⟨?_, ?_, grow_ok hs.ok (by omega) (by omega), by omega⟩ rfl (grow_mem S n)
    · refine Ext.setCell (Ext.setCell ?_ _ _ (.inl (by simp))) _ _ (.inl (by simp))
      exact (e0.trans' e2 (fun x hx => .inr (by simp at hx; omega))).weaken (by simp)
    · have := (hh2.set 1 (.slice (some ⟨w.heap.size, 0, none⟩) ((n + 63) / 64) ((n + 63) / 64))).set 0 (.int .i64 (n : Int))
      have e3 : (S.grow n).ws.length = (n + 63) / 64 := (grow_ok hs.ok (by omega) (by omega)).len
      rw [e3, show (S.grow n).N = n from rfl]
      simpa using this
    · refine BlkT.set_other (BlkT.set_other ?_ _ (by simp; omega)) _ (by simp; omega)
      have e3 : (wcells S.ws).take ((n + 63) / 64) ++ (V.rep ((n + 63) / 64) [Value.int .u64 0]).drop (min S.ws.length ((n + 63) / 64)) = wcells (S.grow n).ws := by
        rw [hrep, List.take_of_length_le (by simp [wcells]; omega), show min S.ws.length ((n + 63) / 64) = S.ws.length by omega]
        unfold wcells SetV.grow
        rw [← List.map_drop, List.drop_replicate, List.map_append]
      rw [e3] at hb2; exact hb2
end Go.Proofs.YtbaglnffgbnekaaDoor
