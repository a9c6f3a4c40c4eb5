/- The words of a set, copies of lists of words, the count of a word's bits one by one, words that are no set of a size. -/
import Derived.Test.YtbaglnffgbnekaaS10
set_option linter.unusedVariables false
set_option linter.unusedSimpArgs false
namespace Go.Proofs.Ytbaglnffgbnekaa
open Go Go.V Go.B

theorem pc_succ (n x : Nat) : pc (n + 1) x = x % 2 + pc n (x / 2) := by
  rw [Nat.add_comm n 1, pc_add, Nat.shiftRight_eq_div_pow]
  congr 1
  have : pc 1 x = if x.testBit 0 then 1 else 0 := by simp [pc, List.range_succ, List.countP_cons]
  rw [this, Nat.testBit_zero]
  by_cases h : x % 2 = 1
  · simp [h]
  · have : x % 2 = 0 := by omega
    simp [this]
theorem pc_low : ∀ (n v : Nat), v ≠ 0 → v < 2 ^ n → pc n (v &&& (v - 1)) + 1 = pc n v
  | 0, v, h0, hv => by simp at hv; omega
  | n + 1, v, h0, hv => by
    rw [pc_succ, pc_succ n v]
    have e1 : (v &&& (v - 1)) % 2 = 0 := by
      have : (v &&& (v - 1)).testBit 0 = false := by
        rw [Nat.testBit_and, Nat.testBit_zero, Nat.testBit_zero]
        rcases Nat.mod_two_eq_zero_or_one v with h | h
        · simp [h]
        · have : (v - 1) % 2 = 0 := by omega
          simp [this]
      rw [Nat.testBit_zero] at this
      have h2 : (v &&& (v - 1)) % 2 ≠ 1 := by simpa using this
      omega
    have e2 : (v &&& (v - 1)) / 2 = v / 2 &&& (v - 1) / 2 := Nat.and_div_two
    rw [e1, e2]
    rcases Nat.mod_two_eq_zero_or_one v with h | h
    · have e3 : (v - 1) / 2 = v / 2 - 1 := by omega
      rw [e3, h]
      have := pc_low n (v / 2) (by omega) (by have : 2 ^ (n + 1) = 2 * 2 ^ n := by rw [Nat.pow_succ]; omega
                                              omega)
      omega
    · have e3 : (v - 1) / 2 = v / 2 := by omega
      rw [e3, h, Nat.and_self]; omega
theorem pc_pos {n v : Nat} (h0 : v ≠ 0) (hv : v < 2 ^ n) : 0 < pc n v := by have := pc_low n v h0 hv; omega

theorem words_c {w : World} {A : Option Addr} {l c : Nat} {xs : List Int} (hx : Ints w .u64 A l xs) (hl : l * 8 ≤ 140737488355328) {R : Ending → World → Prop}
    (k : ∀ A' c' w', Ext [] w w' → w'.ownsRow w.heap.size 51 1 (.slice A' l c') l (ints .u64 xs) → R (.returned (.slice A' l c')) w') :
    Calls Try.prog 26 #[.slice A l c] w R := by
  apply berthlaw01_words_nf
  have e0 : Ext [] w (w.alloc (.cells #[] 51)) := (Ext.refl _ _).alloc _
  have own0 : (w.alloc (.cells #[] 51)).ownsRow w.heap.size 51 1 (.slice (some ⟨w.heap.size, 0, none⟩) 0 0) 0 (ints .u64 []) := by
    have hh : (w.alloc (.cells #[] 51)).heap[w.heap.size]? = some (.cells ⟨[]⟩ 51 (0, 0)) := by
      show (w.heap.push _)[w.heap.size]? = _; simp
    exact own_made hh (c := 0) (n := 0) rfl (by omega) (by omega) (Nat.le_refl _)
  have hx0 := hx.ext0 e0
  have hlen := hx.len
  obtain ⟨A', c', w', hr, own', e'⟩ := appN (P := Try.prog) (t := 46) (ty := 46) (e := 51) (bytes := 8) (z := .int .u64 0) (by kernel_rfl) (by kernel_rfl) rfl (by omega) own0 (m := l) (cy := c) (Y := A) (ys := ints .u64 xs) (by simp [hlen])
    (by intro j u hj
        have hj' : j < l := by
          have := (List.getElem?_eq_some_iff.1 hj).1
          simpa [hlen] using this
        obtain ⟨ad, ha, hc⟩ := hx0.cells j hj'
        rw [ints_get (by omega)] at hj
        exact ⟨ad, ha, by rw [hc]; exact hj⟩)
    (by intro u hu
        obtain ⟨x, _, rfl⟩ := List.mem_map.1 hu
        rfl) e0.size (by omega)
  refine ⟨_, _, _, _, hr, ?_⟩
  rw [Nat.zero_add] at own' ⊢
  exact k A' c' w' (e0.trans' e' (fun x hx => .inr (by simp [ownF] at hx; omega))) (by simpa [ints] using own')
theorem SameWords_c {w : World} {A B : Option Addr} {l c m d : Nat} {xs ys : List Int} (hx : Ints w .u64 A l xs) (hy : Ints w .u64 B m ys) (hl : l < 4611686018427387904) {R : Ending → World → Prop}
    (k : ∀ w', Ext [] w w' → R (.returned (.bool (decide (xs = ys)))) w') :
    Calls Try.prog 56 #[.slice A l c, .slice B m d] w R := by
  apply berthref01_SameWords_nf
  have hxl := hx.len
  have hyl := hy.len
  refine sel_intro (fun hne => ?_) (fun heq => ?_)
  · have : decide (xs = ys) = false := by
      rw [decide_eq_false_iff_not]
      rintro rfl
      rw [← hxl, ← hyl] at hne; simp at hne
    rw [← this]; exact k w (Ext.refl _ _)
  have hlm : l = m := Int.ofNat_inj.1 (bne_eq_false_iff_eq.1 heq)
  subst hlm
  refine ⟨fun i w' => Ext [] w w' ∧ ∃ n : Nat, i = n ∧ n ≤ l ∧ ∀ j, j < n → xs.getD j 0 = ys.getD j 0, fun i _ => l - i.toNat, ⟨Ext.refl _ _, 0, rfl, by omega, by omega⟩, ?_⟩
  rintro _ _ w2 ⟨e2, n, rfl, hn, hall⟩
  refine sel_dec (fun hlt => ?_) (fun hge => ?_)
  · refine when_dec ⟨by omega, by omega⟩ (Ints.at (hx.ext0 e2) (show n < l by omega) fun ad hc => ?_)
    rw [Int.toNat_natCast, Nat.mul_one]
    refine ⟨_, hc, when_dec ⟨by omega, by omega⟩ (Ints.at (hy.ext0 e2) (show n < l by omega) fun ad' hc' => ⟨_, hc', sel_intro (fun hne => ?_) (fun heq => ?_)⟩)⟩
    · have : decide (xs = ys) = false := by
        rw [decide_eq_false_iff_not]
        rintro rfl
        simp at hne
      rw [← this]; exact k _ e2.drew
    · have heq := bne_eq_false_iff_eq.1 heq
      rw [up64 n (by omega)]
      refine ⟨⟨e2.drew, n + 1, rfl, by omega, fun j hj => ?_⟩, down (by omega)⟩
      by_cases hjn : j = n
      · subst hjn; exact heq
      · exact hall j (by omega)
  · have : decide (xs = ys) = true := by
      rw [decide_eq_true_eq]
      apply List.ext_getElem (by omega)
      intro j h1 h2
      have := hall j (by omega)
      simpa [List.getD_eq_getElem?_getD, h1, h2] using this
    rw [← this]; exact k _ e2
theorem SetAt.wints {w : World} {p bw : Nat} {S : SetV} (h : SetAt w p bw S) : Ints w .u64 (some ⟨bw, 0, none⟩) S.ws.length (wi S.ws) := by
  refine ⟨by simp [wi], fun j hj => ⟨_, rfl, ?_⟩⟩
  rw [wi_get]; exact h.word hj
theorem Words_c {w : World} {q : Option Addr} {S : SetV} {f : List Nat} (h : RefAt w q S f) {R : Ending → World → Prop}
    (k : ∀ p bw w', Ext [] w w' → w.heap.size ≤ p → w.heap.size ≤ bw → SetAt w' p bw S → R (.returned (.slice (some ⟨bw, 0, none⟩) S.ws.length S.ws.length)) w') :
    Calls Try.prog 25 #[.pointer q] w R := by
  apply bitset_Set_Words_nf
  refine Clone_c h fun p bw w' e hp hbw hs => ⟨_, rfl, ptr_in ⟨_, _, _, hs.words, k p bw w' e hp hbw hs⟩⟩
/-- The last word of a row of the call's own is written over. -/
theorem own_setLast {w : World} {B n c : Nat} {e : TypeId} {A : Option Addr} {ws : List Nat} (h : w.ownsRow B e 1 (.slice A n c) n (ints .u64 (wi ws))) (hn : 0 < n) (y : Nat) :
    ∃ g, A = some ⟨g, 0, none⟩ ∧ B ≤ g ∧ (∃ u, w.cell? ⟨g, n - 1, none⟩ = some u) ∧ w.frozen? ⟨g, n - 1, none⟩ = false ∧ Ints (w.setCell ⟨g, n - 1, none⟩ (.int .u64 (y : Int))) .u64 A n (wi (ws.set (n - 1) y)) := by
  have hl : ws.length = n := by have := h.1; simpa [wi] using this
  rcases h.2 with ⟨_, h0⟩ | ⟨g, cap, cur, hv, hb, hh, hcap, _, hsz, ht⟩
  · omega
  · injection hv with hA _ _
    subst hA
    have hblk : Blk w g cur.toList := ⟨e, hh⟩
    have cellAt : ∀ j, j < n → cur.toList[j]? = some (.int .u64 ((ws.getD j 0 : Nat) : Int)) := fun j hj => by
      have e1 : (cur.toList.take (n * 1))[j]? = some (.int .u64 ((wi ws).getD j 0)) := by rw [ht]; exact ints_get (by simp [wi]; omega)
      rw [wi_get, List.getElem?_take] at e1
      split at e1
      · exact e1
      · cases e1
    refine ⟨g, rfl, hb, ⟨_, hblk.cell (cellAt (n - 1) (by omega))⟩, hblk.frozen _, ?_, fun j hj => ⟨_, rfl, ?_⟩⟩
    · simp [wi, hl]
    · rw [wi_get, Addr.add0]
      have hb2 := hblk.set (n - 1) (.int .u64 (y : Int))
      refine hb2.cell ?_
      rw [List.getElem?_set]
      simp only [List.getD_eq_getElem?_getD, List.getElem?_set]
      by_cases hjn : n - 1 = j
      · subst hjn
        have : n - 1 < cur.toList.length := (List.getElem?_eq_some_iff.1 (cellAt (n - 1) (by omega))).1
        simp only [if_true, this, hl, show n - 1 < n by omega, Option.getD_some]
      · simp only [hjn, if_false]
        have := cellAt j hj
        rw [this]; simp [List.getD_eq_getElem?_getD]
theorem cut_zero (A : Option Addr) {c : Nat} : ∀ {ad : Addr}, A = some ad → ∀ {w : World} {k : IntKind} {xs : List Int} {n : Nat}, Ints w k A n xs → ∀ m, m ≤ n → n ≤ c → Ints w k (V.cut A c 0 1) m (xs.take m) := fun {ad} hA {w k xs n} h m hm hc => by
  subst hA
  refine ⟨by have := h.len; simp; omega, fun j hj => ?_⟩
  obtain ⟨ad', ha, hcell⟩ := h.cells j (by omega)
  cases ha
  refine ⟨ad, ?_, ?_⟩
  · unfold V.cut
    rw [if_neg (by omega)]
    simp [Addr.add_zero']
  · rw [hcell]
    simp [List.getD_eq_getElem?_getD, List.getElem?_take, hj]
theorem refused_c {N : Nat} (hN : N ≤ 65536) {w : World} {A : Option Addr} {c : Nat} {C : SetV} (oC : C.Ok) (hCN : C.N = N) (hx : Ints w .u64 A C.ws.length (wi C.ws)) (hc : C.ws.length ≤ c) {R : Ending → World → Prop} (k : ∀ w', Ext [] w w' → R (.returned (.bool true)) w') :
    Calls Try.prog 30 #[.int .i64 (N : Int), .slice A C.ws.length c] w R := by
  apply berthlaw01_refused_nf
  have hl := oC.len
  rw [hCN] at hl
  generalize hn : C.ws.length = n at *
  refine words_c hx (by omega) fun A1 c1 w1 e1 own1 => ⟨_, _, _, rfl, ?_⟩
  have hx1 := hx.ext0 e1
  obtain ⟨A2, c2, w2, hr2, own2, e2⟩ := app1 (P := Try.prog) (t := 46) (ty := 46) (e := 51) (bytes := 8) (z := .int .u64 0) (by kernel_rfl) (by kernel_rfl) rfl own1 (x := .int .u64 0) rfl e1.size (by omega) (by omega)
  have f2 : Ext [] w w2 := e1.trans' e2 fun x hx => .inr ((own_base own1 x hx).1)
  refine ⟨_, _, _, _, hr2, ?_⟩
  have i2 : Ints w2 .u64 A2 (n + 1) (wi (C.ws ++ [0])) := by
    have := own_ints (xs := wi C.ws ++ [0]) (own_snoc own2)
    simpa [wi] using this
  have lt2 : ∀ j, (C.ws ++ [0]).getD j 0 < 18446744073709551616 := fun j => by
    have := oC.lt j
    simp only [List.getD_eq_getElem?_getD, List.getElem?_append] at this ⊢
    split
    · exact this
    · rcases Nat.eq_zero_or_pos (j - C.ws.length) with h | h
      · simp [h]
      · rw [List.getElem?_eq_none (by simp; omega)]; simp
  refine FromWords_c hN i2 lt2 (by omega) (fun w3 _ e3 => ⟨_, _, rfl, num_c _ ⟨_, rfl, sel_false rfl ?_⟩⟩) (fun w3 h _ _ _ => by omega) (fun _ _ w3 h _ _ _ _ => by omega)
  have f3 := f2.trans e3
  refine sel_intro (fun h0 => k _ f3) (fun h0 => ?_)
  have hn0 : 0 < n := by
    rcases Nat.eq_zero_or_pos n with h | h
    · rw [h] at h0; simp at h0
    · exact h
  have e4 : IntKind.wrap .i64 (((n : Nat) : Int) - 1) = ((n - 1 : Nat) : Int) := by rw [w64 (by omega) (by omega)]; omega
  simp only [e4, Int.toNat_natCast, Nat.sub_zero]
  obtain ⟨ad, hA⟩ : ∃ ad, A = some ad := by obtain ⟨ad, h, _⟩ := hx.cells 0 hn0; exact ⟨ad, h⟩
  refine when_dec ⟨by omega, by omega⟩ ?_
  have hcut := cut_zero A (c := c) hA (hx.ext0 f3) (n - 1) (by omega) hc
  refine words_c hcut (by omega) fun A4 c4 w4 e4' own4 => ⟨_, _, _, rfl, ?_⟩
  have f4 := f3.trans e4'
  have i4 : Ints w4 .u64 A4 (n - 1) (wi (C.ws.take (n - 1))) := by
    have := own_ints own4
    simpa [wi, List.map_take] using this
  have lt4 : ∀ j, (C.ws.take (n - 1)).getD j 0 < 18446744073709551616 := fun j => by
    have := oC.lt j
    simp only [List.getD_eq_getElem?_getD, List.getElem?_take] at this ⊢
    split
    · exact this
    · simp
  refine FromWords_c hN i4 lt4 (by omega) (fun w5 _ e5 => ⟨_, _, rfl, num_c _ ⟨_, rfl, sel_false rfl ?_⟩⟩) (fun w5 h _ _ _ => by omega) (fun _ _ w5 h _ _ _ _ => by omega)
  have f5 := f4.trans e5
  rw [tmod64]
  refine sel_intro (fun hr => ?_) (fun hr => k _ f5)
  have hr0 : N % 64 ≠ 0 := fun h => by rw [h] at hr; simp at hr
  refine words_c (hx.ext0 f5) (by omega) fun A6 c6 w6 e6 own6 => ⟨_, _, _, rfl, ?_⟩
  have f6 := f5.trans e6
  have i6 := own_ints own6
  rw [e4, u64 (x := ((N % 64 : Nat) : Int)) (by omega) (by omega)]
  obtain ⟨g, hA6, hg, hcell, hfro, iset⟩ := own_setLast own6 hn0 (C.ws.getD (n - 1) 0 ||| 2 ^ (N % 64))
  subst hA6
  refine when_dec ⟨by omega, by omega⟩ (Ints.at i6 (show n - 1 < n by omega) fun ad6 hc6 => ?_)
  rw [Int.toNat_natCast, Nat.mul_one]
  rw [wi_get] at hc6
  refine ⟨_, hc6, when_dec (by omega) (when_dec ⟨by omega, by omega⟩ (ptr_in ?_))⟩
  simp only [Int.toNat_natCast, Nat.mul_one, Addr.addAdd]
  rw [shl1 _ (by omega), or64 (oC.lt _) (pow_lt64 (by omega))]
  refine ⟨hcell, hfro, ?_⟩
  have ltS : ∀ j, (C.ws.set (n - 1) (C.ws.getD (n - 1) 0 ||| 2 ^ (N % 64))).getD j 0 < 18446744073709551616 := fun j => by
    have := oC.lt j
    simp only [List.getD_eq_getElem?_getD, List.getElem?_set] at this ⊢
    split
    · split
      · exact Nat.or_lt_two_pow (n := 64) (by have := oC.lt (n - 1); simpa [List.getD_eq_getElem?_getD] using this) (pow_lt64 (by omega))
      · simp
    · exact this
  have eS : Ext [] w (w6.setCell ⟨g, n - 1, none⟩ (.int .u64 ((C.ws.getD (n - 1) 0 ||| 2 ^ (N % 64) : Nat) : Int))) := f6.setCell _ _ (.inr (Nat.le_trans f5.size hg))
  have lastBit : (C.ws.set (n - 1) (C.ws.getD (n - 1) 0 ||| 2 ^ (N % 64))).getD (n - 1) 0 >>> (N % 64) ≠ 0 := fun h => by
    have : (C.ws.set (n - 1) (C.ws.getD (n - 1) 0 ||| 2 ^ (N % 64))).getD (n - 1) 0 = C.ws.getD (n - 1) 0 ||| 2 ^ (N % 64) := by
      simp only [List.getD_eq_getElem?_getD, List.getElem?_set, if_true, hn, show n - 1 < n by omega, Option.getD_some]
    rw [this] at h
    have hb : ((C.ws.getD (n - 1) 0 ||| 2 ^ (N % 64)) >>> (N % 64)).testBit 0 = true := by
      rw [Nat.testBit_shiftRight, Nat.testBit_or, Nat.testBit_two_pow]; simp
    rw [h] at hb; simp at hb
  refine FromWords_c hN iset ltS (by omega) (fun w7 h _ => absurd (by omega) h) (fun w7 _ _ _ e7 => ⟨_, _, rfl, num_c _ ⟨_, rfl, k _ (eS.trans e7)⟩⟩) (fun p7 q7 w7 _ _ _ _ hs7 => ?_)
  exfalso
  have ht := hs7.ok.tail N (Nat.le_refl _)
  unfold SetV.mem at ht
  have hdn : N / 64 = n - 1 := by omega
  simp only [hdn] at ht
  have := Nat.testBit_shiftRight (i := N % 64) (j := 0) ((C.ws.set (n - 1) (C.ws.getD (n - 1) 0 ||| 2 ^ (N % 64))).getD (n - 1) 0)
  have hv : (C.ws.set (n - 1) (C.ws.getD (n - 1) 0 ||| 2 ^ (N % 64))).getD (n - 1) 0 = C.ws.getD (n - 1) 0 ||| 2 ^ (N % 64) := by
    simp only [List.getD_eq_getElem?_getD, List.getElem?_set, if_true, hn, show n - 1 < n by omega, Option.getD_some]
  rw [hv, Nat.testBit_or, Nat.testBit_two_pow] at ht
  simp at ht
end Go.Proofs.Ytbaglnffgbnekaa
