/- BitsetLists for words. -/
import Derived.Test.YtbaglnffgbnekaaS14
set_option linter.unusedVariables false
set_option linter.unusedSimpArgs false
namespace Go.Proofs.Ytbaglnffgbnekaa
open Go Go.V Go.B

theorem SetAt.own {w : World} {p bw : Nat} {S : SetV} (h : SetAt w p bw S) : Own w 51 .u64 (some ⟨bw, 0, none⟩) S.ws.length S.ws.length (wi S.ws) := by
  have hl := h.ok.len
  have hN := h.ok.N
  refine Own.mk (n := S.ws.length) ?_ (by simp [wi]) (by omega)
  have := h.wrd
  rwa [wcells_ints] at this
set_option maxRecDepth 4000 in
theorem wordLists_c {w : World} {p bw N : Nat} {S : SetV} (hs : SetAt w p bw S) (hN : S.N = N) {R : Ending → World → Prop} (k : ∀ w', Ext [] w w' → R (.returned (.bool true)) w') :
    Calls Try.prog 23 #[.pointer (some ⟨p, 0, none⟩), .int .i64 (N : Int)] w R := by
  apply berthlaw01_wordLists_nf
  have oS := hs.ok
  have hl := oS.len
  have hN6 := oS.N
  have hpw := hs.hdr.lt
  have hbw := hs.wrd.lt
  generalize hn : S.ws.length = n at *
  have same : ∀ {w' : World} {A B : Option Addr} {c d : Nat} {Q : Bool → World → Prop} {xs : List Int} {m : Nat}, Ints w' .u64 A m xs → Ints w' .u64 B m xs → m < 100000 → (∀ w'', Ext [] w' w'' → Q true w'') →
      Calls Try.prog 56 #[.slice A m c, .slice B m d] w' fun e2 w2 => ∃ b, e2 = .returned (.bool b) ∧ Q b w2 := fun h1 h2 hm hQ =>
    SameWords_c h1 h2 (by omega) fun w'' e => ⟨_, rfl, by simp only [decide_true]; exact hQ w'' e⟩
  refine Words_c hs.ref fun p1 b1 w1 e1 hp1 hb1 s1 => ⟨_, _, _, rfl, ?_⟩
  refine Words_c (hs.ext0 e1).ref fun p2 b2 w2 e2 hp2 hb2 s2 => ⟨_, _, _, rfl, ?_⟩
  have i1 := (s1.ext0 e2).wints
  rw [hn] at i1 ⊢
  refine words_c i1 (by omega) fun A3 c3 w3 e3 own3 => ⟨_, _, _, rfl, ?_⟩
  refine words_c (i1.ext0 e3) (by omega) fun A4 c4 w4 e4 own4 => ⟨_, _, _, rfl, ?_⟩
  have lit : Ints (w4.alloc (.cells #[.int .u64 5, .int .u64 6, .int .u64 7, .int .u64 8] 51)) .u64 (some ⟨w4.heap.size, 0, none⟩) 4 [5, 6, 7, 8] :=
    Ints.of_blk (xs := [5, 6, 7, 8]) (Blk.new w4 _ _) (fun j hj => by
      have : j < 4 := hj
      rcases (show j = 0 ∨ j = 1 ∨ j = 2 ∨ j = 3 by omega) with rfl | rfl | rfl | rfl <;> rfl)
  have ea : Ext [] w4 (w4.alloc (.cells #[.int .u64 5, .int .u64 6, .int .u64 7, .int .u64 8] 51)) := (Ext.refl _ _).alloc _
  have own4a := own_ext own4 ea (by simp)
  have sz := e3.size
  have sz4 := e4.size
  have sza := ea.size
  obtain ⟨A5, c5, w5, hr5, own5, e5⟩ := appN (P := Try.prog) (t := 46) (ty := 46) (e := 51) (bytes := 8) (z := .int .u64 0) (by kernel_rfl) (by kernel_rfl) rfl (by omega) own4a (m := 4) (cy := 4) (Y := some ⟨w4.heap.size, 0, none⟩) (ys := ints .u64 [5, 6, 7, 8]) (by simp)
    (by intro j u hj
        have hj' : j < 4 := by
          have := (List.getElem?_eq_some_iff.1 hj).1
          simpa using this
        obtain ⟨ad, ha, hc⟩ := lit.cells j hj'
        rw [ints_get (by simpa using hj')] at hj
        exact ⟨ad, ha, by rw [hc]; exact hj⟩)
    (by intro u hu
        obtain ⟨x, _, rfl⟩ := List.mem_map.1 hu
        rfl) (by omega) (by omega)
  refine ⟨_, _, _, _, hr5, ?_⟩
  have f5 : Ext [] w3 w5 := (e4.trans ea).trans' e5 fun x hx => .inr ((own_base own4a x hx).1)
  have own5' : w5.ownsRow w3.heap.size 51 1 (.slice A5 (n + 4) c5) (n + 4) (ints .u64 (wi S.ws ++ [5, 6, 7, 8])) := by simpa [ints] using own5
  have hA5 := own_base own5'
  have i5 := own_ints own5'
  have sz5 := f5.size
  refine words_c i5 (by omega) fun A6 c6 w6 e6 own6 => ⟨_, _, _, rfl, ?_⟩
  have hcap5 : n + 4 ≤ c5 := by
    rcases own5'.2 with ⟨_, h0⟩ | ⟨g, cap, cur, hv, _, _, hc, _⟩
    · omega
    · injection hv with _ _ hcc; omega
  refine when_dec ⟨by omega, by omega⟩ ?_
  rw [Nat.sub_zero]
  obtain ⟨ad5, hA5s⟩ : ∃ ad, A5 = some ad := by obtain ⟨ad, h, _⟩ := i5.cells 0 (by omega); exact ⟨ad, h⟩
  have i5c : Ints w6 .u64 (V.cut A5 c5 0 1) n (wi S.ws) := by
    have := cut_zero A5 (c := c5) hA5s (i5.ext0 e6) n (by omega) hcap5
    rwa [List.take_append_of_le_length (by simp [wi, hn]), List.take_of_length_le (by simp [wi, hn])] at this
  have sz6 := e6.size
  refine FromWords_c (by omega) i5c oS.lt (by omega) (fun w7 h _ => absurd (by rw [← hN]; exact hl) h) (fun w7 _ hr hb _ => ?_) (fun p7 b7 w7 _ e7 hp7 hb7 s7 => ⟨_, _, rfl, sel_false rfl ?_⟩)
  · exfalso
    have : ∀ j, ((S.ws.getD (n - 1) 0) >>> (N % 64)).testBit j = false := fun j => by
      rw [Nat.testBit_shiftRight]
      by_cases hj : N % 64 + j < 64
      · have := oS.tail (64 * (n - 1) + (N % 64 + j)) (by omega)
        unfold SetV.mem at this
        rwa [show (64 * (n - 1) + (N % 64 + j)) / 64 = n - 1 by omega, show (64 * (n - 1) + (N % 64 + j)) % 64 = N % 64 + j by omega] at this
      · refine Nat.testBit_lt_two_pow (Nat.lt_of_lt_of_le (oS.lt _) ?_)
        have : (2 : Nat) ^ 64 ≤ 2 ^ (N % 64 + j) := Nat.pow_le_pow_right (by omega) (by omega)
        omega
    exact hb (Nat.eq_of_testBit_eq fun j => by rw [this j]; simp)
  have i6 := own_ints own6
  refine same ((i5.ext0 e6).ext0 e7) (i6.ext0 e7) (by omega) fun w8 e8 => sel_false rfl ?_
  have f8 : Ext [] w3 w8 := ((f5.trans e6).trans e7).trans e8
  have i3 := own_ints own3
  have i2 := s2.wints
  rw [hn] at i2
  refine same ((i2.ext0 e3).ext0 f8) (i3.ext0 f8) (by omega) fun w9 e9 => sel_false rfl ?_
  have f9 := f8.trans e9
  have own9 : Own w9 51 .u64 A5 (n + 4) c5 (wi S.ws ++ [5, 6, 7, 8]) := (Own.of own5').ext (((e6.trans e7).trans e8).trans e9) (by simp)
  have s9 := (s7.ext0 e8).ext0 e9
  have sz7 := e7.size
  have sz8 := e8.size
  have sz9 := e9.size
  refine ⟨fun i w' => ∃ (m : Nat) (xs : List Int), i = m ∧ m ≤ n + 4 ∧ Ext (ownF A5) w9 w' ∧ Own w' 51 .u64 A5 (n + 4) c5 xs, fun i _ => n + 4 - i.toNat, ⟨0, _, rfl, by omega, Ext.refl _ _, own9⟩, ?_⟩
  rintro _ _ w10 ⟨m, xs, rfl, hm, e10, own10⟩
  have A5lt : ∀ b ∈ ownF A5, w3.heap.size ≤ b ∧ b < w5.heap.size := hA5
  refine sel_dec (fun hlt => ?_) (fun hge => ?_)
  · have hmn : m < n + 4 := by omega
    obtain ⟨g, hAg, hcell, hfro, hown⟩ := own10.set hmn 0
    refine when_dec ⟨by omega, by omega⟩ ?_
    rw [hAg]
    refine ptr_in ?_
    simp only [Int.toNat_natCast, Nat.mul_one, Addr.addAdd]
    rw [up64 m (by omega)]
    refine ⟨hcell, hfro, ⟨m + 1, xs.set m 0, rfl, by omega, ?_, ?_⟩, down (by omega)⟩
    · rw [← hAg]; exact e10.setCell _ _ (.inl (by rw [hAg]; simp [ownF]))
    · first | exact hown | (rw [← hAg]; exact hown)
  have s10 := s9.ext e10 (fun h => by have := (A5lt _ h).2; omega) (fun h => by have := (A5lt _ h).2; omega)
  have f10 : Ext [] w3 w10 := f9.trans' e10 fun x hx => .inr (A5lt x hx).1
  refine Words_c s10.ref fun p11 b11 w11 e11 hp11 hb11 s11 => ⟨_, _, _, rfl, ?_⟩
  have i11 := s11.wints
  simp only [hn] at i11 ⊢
  have f11 := f10.trans e11
  have sz10 := e10.size
  refine same i11 (i3.ext0 f11) (by omega) fun w12 e12 => sel_false rfl ?_
  have f12 := f11.trans e12
  have sz11 := e11.size
  have sz12 := e12.size
  have own1 := s1.own
  have own2 := s2.own
  have own11 := s11.own
  simp only [hn] at own1 own2 own11
  have sz1 := e1.size
  have sz2 := e2.size
  have l1 := s1.wrd.lt
  have l2 := s2.wrd.lt
  have l11 := s11.wrd.lt
  obtain ⟨w13, hw13⟩ : ∃ w13, w13 = w12.alloc (.cells #[.slice (some ⟨b1, 0, none⟩) n n, .slice (some ⟨b2, 0, none⟩) n n, .slice (some ⟨b11, 0, none⟩) n n] 46) := ⟨_, rfl⟩
  have e13 : Ext [] w12 w13 := by rw [hw13]; exact (Ext.refl _ _).alloc _
  have b13 : Blk w13 w12.heap.size [.slice (some ⟨b1, 0, none⟩) n n, .slice (some ⟨b2, 0, none⟩) n n, .slice (some ⟨b11, 0, none⟩) n n] := by rw [hw13]; exact Blk.new _ _ _
  rw [← hw13]
  have f13 := f12.trans e13
  have three : ∀ j, j < 3 → j = 0 ∨ j = 1 ∨ j = 2 := fun j hj => by omega
  refine apartWords_c (K := 3) (A := fun j => some ⟨[b1, b2, b11].getD j 0, 0, none⟩) (n := fun _ => n) (c := fun _ => n) (f0 := fun _ => wi S.ws) (by omega) (fun j hj => ?_) b13.lt (fun j hj => ?_) (fun i j hi hj hij x hx => ?_) (fun j hj => ?_) (fun j hj => by omega) fun w14 e14 => ⟨_, rfl, sel_false rfl ?_⟩
  · rcases three j hj with rfl | rfl | rfl <;> exact b13.cell rfl
  · rcases three j hj with rfl | rfl | rfl
    · exact own1.ext ((e2.trans e3).trans f13) (by simp)
    · exact own2.ext (e3.trans f13) (by simp)
    · exact own11.ext (e12.trans e13) (by simp)
  · simp only [ownF, List.mem_singleton] at hx ⊢
    rcases three i hi with rfl | rfl | rfl <;> rcases three j hj with rfl | rfl | rfl <;> simp at hx hij ⊢ <;> omega
  · rcases three j hj with rfl | rfl | rfl <;> simp [ownF] <;> omega
  have hflat : ∀ b ∈ flat 3 (fun j => some (⟨[b1, b2, b11].getD j 0, 0, none⟩ : Addr)), b = b1 ∨ b = b2 ∨ b = b11 := fun b hb => by
    obtain ⟨j, hj, hx⟩ := mem_flat.1 hb
    rcases three j hj with rfl | rfl | rfl <;> simp [ownF] at hx <;> simp [hx]
  have g14 : Ext [] w w14 := ((((e1.trans e2).trans e3).trans f13)).trans' e14 fun b hb => .inr (by rcases hflat b hb with rfl | rfl | rfl <;> omega)
  have hA3 := own_base own3
  have i14 : Ints w14 .u64 A3 n (wi S.ws) := (i3.ext0 f13).ext e14 fun ad had hmem => by
    have := hA3 ad.block (by rw [had]; simp [ownF])
    rcases hflat _ hmem with h | h | h <;> omega
  have lp7 := s7.hdr.lt
  have lb7 := s7.wrd.lt
  have s14 := ((s10.ext0 e11).ext0 (e12.trans e13)).ext e14 (fun h => by rcases hflat _ h with h | h | h <;> omega) (fun h => by rcases hflat _ h with h | h | h <;> omega)
  refine Words_c (hs.ext0 g14).ref fun p15 b15 w15 e15 hp15 hb15 s15 => ⟨_, _, _, rfl, ?_⟩
  have i15 := s15.wints
  simp only [hn] at i15 ⊢
  refine same i15 (i14.ext0 e15) (by omega) fun w16 e16 => sel_true rfl ?_
  refine Words_c ((s14.ext0 e15).ext0 e16).ref fun p17 b17 w17 e17 hp17 hb17 s17 => ⟨_, _, _, rfl, ?_⟩
  have i17 := s17.wints
  simp only [hn] at i17 ⊢
  refine same i17 (((i14.ext0 e15).ext0 e16).ext0 e17) (by omega) fun w18 e18 => ?_
  exact k _ ((((g14.trans e15).trans e16).trans e17).trans e18)
end Go.Proofs.Ytbaglnffgbnekaa
