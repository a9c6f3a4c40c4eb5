/- Posting: PostingSets, what parts does. -/
import Derived.Test.YtpipenkaaodlgaaDoorZ11
set_option linter.unusedVariables false
set_option linter.unusedSimpArgs false
namespace Go.Proofs.YtpipenkaaodlgaaDoor
open Go Go.V Go.B

theorem blt (a b : ByteArray) : Op.bytesLess (ByteArray.toList a) (ByteArray.toList b) = decide (bs a < bs b) := by
  rw [ByteArray.toList_eq, ByteArray.toList_eq, bytesLess_eq]; rfl
theorem count_eq {S T : SetV} (hs : S.Ok) (ht : T.Ok) (h : ∀ i, S.mem i = true ↔ T.mem i = true) : S.count = T.count := by
  rw [← members_length, ← members_length]
  have n1 : S.members.Nodup := List.nodup_range.filter _
  have n2 : T.members.Nodup := List.nodup_range.filter _
  exact ((List.perm_ext_iff_of_nodup n1 n2).2 fun i => by rw [mem_members hs, mem_members ht, h]).length_eq
theorem count_one {S : SetV} (hs : S.Ok) {i : Nat} (h : S.mem i = true) : 1 ≤ S.count := by
  rw [← members_length]
  exact List.length_pos_of_mem ((mem_members hs i).2 h)
theorem strict_lt {l : List ByteArray} (h : Strict l) {a : Nat} {x y : ByteArray} (hx : l[a]? = some x) (hy : l[a + 1]? = some y) : bs x < bs y := by
  obtain ⟨h1, rfl⟩ := List.getElem?_eq_some_iff.1 hx
  obtain ⟨h2, rfl⟩ := List.getElem?_eq_some_iff.1 hy
  exact List.pairwise_iff_getElem.1 h a (a + 1) h1 h2 (by omega)
theorem strict_new {l : List ByteArray} (h : Strict l) {a : Nat} {x : ByteArray} (hx : l[a]? = some x) : x ∉ l.take a := fun hm => by
  have nd : l.Nodup := h.imp fun h e => by rw [e] at h; exact List.lt_irrefl _ h
  have h1 := snoc_at hx
  have h2 : (l.take (a + 1)).Nodup := nd.sublist (List.take_sublist _ _)
  rw [h1, List.nodup_append] at h2
  exact h2.2.2 _ hm x (by simp) rfl
/-- Two that stand side by side do not fall. -/
theorem strict_no {l : List ByteArray} (h : Strict l) {a : Nat} {x y : ByteArray} (hx : l[a]? = some x) (hy : l[a + 1]? = some y) : ((Op.bytesLess (ByteArray.toList y) (ByteArray.toList x)) || (ByteArray.toList y == ByteArray.toList x)) = false := by
  have h1 := strict_lt h hx hy
  rw [blt, teq, decide_eq_false (fun h2 => List.lt_irrefl _ (List.lt_trans h1 h2)), decide_eq_false (fun e => by rw [e] at h1; exact List.lt_irrefl _ h1)]
  rfl
theorem value_c {w : World} {A : Option Addr} {n c : Nat} {l : List Lab} (hc : Cells w A (LbL.flat l)) (hl : l.length = n) (hn : n < 4611686018427387904) (nd : (keys l).Nodup) {key v : ByteArray} (hkv : (key, v) ∈ l) {R : Ending → World → Prop}
    (k : R (.returned (.tuple #[.string v, .bool true])) w) : Calls Tryd.prog 47 #[.slice A n c, .string key] w R := by
  apply berthlaw07_value_nf
  refine ⟨fun t w' => ∃ a : Nat, t = a ∧ a ≤ n ∧ w' = w ∧ key ∉ keys (l.take a), fun t _ => n - t.toNat, ⟨0, rfl, by omega, rfl, by simp [keys]⟩, ?_⟩
  rintro _ _ w7 ⟨a, rfl, ha, rfl, hno⟩
  refine sel_dec (fun hlt => ?_) (fun hge => ?_)
  · obtain ⟨x, ad, hxx, rfl, rx⟩ := Cells.row (L := LbL) hc hl (a := a) (by omega)
    refine when_dec ⟨by omega, by omega⟩ (ptr_in ⟨x.1, rx 0 _ rfl, ?_⟩)
    rw [teq]
    refine sel_dec (fun h => when_dec ⟨by omega, by omega⟩ (ptr_in ⟨x.2, rx 1 _ rfl, ?_⟩)) (fun h => ?_)
    · have hx : x = (key, v) := key_uniq nd (List.mem_of_getElem? hxx) hkv h
      rw [hx]; exact k
    · rw [up64 a (by omega)]
      refine ⟨⟨a + 1, rfl, by omega, rfl, ?_⟩, by simp only [Int.toNat_natCast]; omega⟩
      rw [snoc_at hxx]
      unfold keys at hno ⊢
      rw [List.map_append, List.mem_append]
      rintro (h1 | h1)
      · exact hno h1
      · simp at h1; exact h h1.symm
  · have : a = n := by omega
    subst this
    rw [List.take_of_length_le (by omega)] at hno
    exact absurd (List.mem_map.2 ⟨_, hkv, rfl⟩) hno
set_option maxRecDepth 4000 in
theorem parts_c {w : World} {q ql : Option Addr} {x : Px} {L : SetV} {fl : List Nat} (h : PxV w q x) (hN : x.N = 100) (hL : RefAt w ql L fl) (hLm : ∀ i : Nat, L.mem i = (x.lab (i : Int)).isSome) (key : ByteArray) {R : Ending → World → Prop}
    (k : ∀ w' H, Ext [] w w' → SetV.Ok H → H.N = 100 → (∀ i : Nat, H.mem i = true ↔ ∃ l, x.lab (i : Int) = some l ∧ ∃ v, (key, v) ∈ l) → R (.returned (.int .i64 ((H.count : Nat) : Int))) w') :
    Calls Tryd.prog 22 #[.pointer q, .string key, .pointer ql] w R := by
  apply berthlaw07_parts_nf
  refine Values_c h key fun A4 n4 c4 vs w6 e6 own6 hvs hn4 => ⟨_, _, _, rfl, ?_⟩
  have hvl := own6.len
  have gb6 := own6.base
  refine New_ok (n := 100) (by omega) fun p7 b7 w10 e10 hp7 hb7 s10 => ⟨_, _, rfl, ?_⟩
  have E10 := e6.trans e10
  refine HasP_c (h.ext0 E10) key fun p11 b11 w13 H e13 hp11 hb11 sH hHN hHm => ⟨_, rfl, ?_⟩
  have E13 := E10.trans e13
  have em0 : ∀ N i : Nat, (⟨N, List.replicate ((N + 63) / 64) 0⟩ : SetV).mem i = false := fun N i => by
    simp [SetV.mem, List.getD_eq_getElem?_getD, List.getElem?_replicate]
    split <;> simp
  have em := em0 100
  -- a value's slot
  have some_v : ∀ v ∈ vs, ∃ i : Nat, ∃ l, x.lab (i : Int) = some l ∧ (key, v) ∈ l := fun v hv => by
    obtain ⟨i, l, h1, h2⟩ := (hvs.mem v).1 hv
    obtain ⟨_, j, rfl, _⟩ := h.ok.lab i l h1
    exact ⟨j, l, h1, h2⟩
  refine ⟨fun _ p w' => Ext [] w13 w' ∧ ∃ pp bb ALL, p = some ⟨pp, 0, none⟩ ∧ SetAt w' pp bb ALL ∧ ∀ i : Nat, ALL.mem i = true ↔ ∃ l, x.lab (i : Int) = some l ∧ ∃ v ∈ vs, (key, v) ∈ l, ?_, ?_⟩
  · refine ⟨fun p t w' => ∃ a : Nat, t = a ∧ a ≤ n4 ∧ Ext [] w13 w' ∧ ∃ pp bb ALL, p = some ⟨pp, 0, none⟩ ∧ SetAt w' pp bb ALL ∧ ALL.N = 100 ∧ ∀ i : Nat, ALL.mem i = true ↔ ∃ l, x.lab (i : Int) = some l ∧ ∃ v ∈ vs.take a, (key, v) ∈ l, fun _ t _ => n4 - t.toNat,
      ⟨0, rfl, by omega, Ext.refl _ _, p7, b7, _, rfl, s10.ext0 e13, rfl, fun i => by rw [em]; simp⟩, ?_⟩
    rintro _ _ _ w20 ⟨a, rfl, ha, e20, pp, bb, ALL, rfl, sA, hAN, hAm⟩
    refine sel_dec (fun hlt => ?_) (fun hge => ?_)
    rotate_left
    · have : a = n4 := by omega
      subst this
      rw [List.take_of_length_le (by omega)] at hAm
      exact ⟨e20, pp, bb, ALL, rfl, sA, hAm⟩
    have E20 : Ext [] w w20 := E13.trans e20
    have c20 : Cells w20 A4 (SL.flat vs) := ((own6.cells.ext0 e10).ext0 e13).ext0 e20
    obtain ⟨v, ad, hva, rfl, rv⟩ := text_at c20 hvl (a := a) (by omega)
    have wd : (0 : Int) ≤ (a : Int) ∧ (a : Int) < ((n4 : Nat) : Int) := by omega
    have hvm := List.mem_of_getElem? hva
    refine when_dec wd (ptr_in ⟨v, rv, With_c (h.ext0 E20) key v fun p23 b23 w25 S e25 hp23 hb23 sS hSN hSm => ⟨_, rfl, ?_⟩⟩)
    obtain ⟨i0, l0, hl0, hm0⟩ := some_v v hvm
    have hS1 : 1 ≤ S.count := count_one sS.ok ((hSm i0).2 ⟨l0, hl0, hm0⟩)
    have E25 := E20.trans e25
    have sA25 := sA.ext0 e25
    have hmeet : ¬ ∃ i, ALL.mem i = true ∧ S.mem i = true := fun ⟨i, h1, h2⟩ => by
      obtain ⟨l, hl, v', hv', hm'⟩ := (hAm i).1 h1
      obtain ⟨l', hl', hm2⟩ := (hSm i).1 h2
      rw [hl] at hl'; cases hl'
      have := OkL.one (h.ok.lab _ _ hl).1 hm' hm2
      subst this
      exact strict_new hvs.strict hva hv'
    refine ⟨fun _ w' => Ext [] w25 w', ?_, ?_⟩
    · refine ⟨fun t w' => t = false ∧ Ext [] w25 w', ?_, ?_⟩
      · have d25 : Ext [] w25 w25.drew := (Ext.refl _ _).drew
        -- behind the order
        have rest : ∀ (K : Bool → World → Prop), (∀ w', Ext [] w25 w' → K false w') → V.sel (Option.isNone (some (⟨p23, 0, none⟩ : Addr))) (K true (World.drew w25))
            (Calls Tryd.prog 26 #[(Value.pointer (some ⟨p23, 0, none⟩))] (World.drew w25) fun e49 w50 =>
            ∃ n48, e49 = Ending.returned (Value.int .i64 n48) ∧
            Ext [] w25.drew w50 ∧
            V.sel (decide (n48 < 1))
            (K true w50)
            (V.when (decide ((0 : Int) ≤ (a : Int) ∧ ((a : Int) : Int) < ((n4 : Nat) : Int))) (V.ptr (some ad) fun a51 =>
            ∃ s52, (∀ w29, Ext [] w25.drew w29 → World.cell? w29 (Addr.add a51 ((Int.toNat (a : Int)) * 1)) = some (Value.string s52)) ∧
            Calls Tryd.prog 26 #[(Value.pointer (some ⟨p23, 0, none⟩))] w50 fun e54 w55 =>
            ∃ n53, e54 = Ending.returned (Value.int .i64 n53) ∧
            Ext [] w25.drew w55 ∧
            Calls Tryd.prog 29 #[(Value.pointer q), (Value.string key), (Value.string s52)] w55 fun e57 w58 =>
            ∃ n56, e57 = Ending.returned (Value.int .i64 n56) ∧
            Ext [] w25.drew w58 ∧
            V.sel (n53 != n56)
            (K true w58)
            (Calls Tryd.prog 46 #[(Value.pointer (some ⟨pp, 0, none⟩)), (Value.pointer (some ⟨p23, 0, none⟩))] w58 fun e60 w61 =>
            ∃ b59, e60 = Ending.returned (Value.bool b59) ∧
            Ext [] w25.drew w61 ∧
            K b59 w61)))) := fun K hK => by
          have sSd := sS.ext0 d25
          refine sel_false rfl (Count_c sSd.ref ⟨_, rfl, Ext.refl _ _, sel_false (decide_eq_false (by omega)) (when_dec wd (ptr_in ⟨v, fun w' e => ?_, Count_c sSd.ref ⟨_, rfl, Ext.refl _ _, ?_⟩⟩))⟩)
          · obtain ⟨v', ad', h1, h2, h3⟩ := text_at (((c20.ext0 e25).ext0 d25).ext0 e) hvl (a := a) (by omega)
            rw [hva] at h1
            cases h1; cases h2
            exact h3
          · refine CountP_c ((h.ext0 E25).ext0 d25) key v fun T oT hT _ => ⟨_, rfl, Ext.refl _ _, ?_⟩
            have he : S.count = T.count := count_eq sS.ok oT fun i => by rw [hSm, hT]
            refine sel_false (by rw [he]; simp) (Meets_c (sA25.ext0 d25).ref sSd.ref fun t ht => ⟨_, rfl, Ext.refl _ _, ?_⟩)
            have : t = false := by
              cases t with
              | false => rfl
              | true => exact absurd (ht.1 rfl) hmeet
            rw [this]
            exact hK _ d25
        refine ⟨fun w' => Ext [] w25.drew w', Ext.refl _ _, sel_dec (fun h0 => ?_) (fun h0 => rest (fun t w' => t = false ∧ Ext [] w25 w') fun w' e => ⟨rfl, e⟩)⟩
        obtain ⟨b, rfl⟩ : ∃ b, a = b + 1 := ⟨a - 1, by omega⟩
        have hb1 : IntKind.wrap .i64 (((b + 1 : Nat) : Int) - 1) = (b : Int) := by rw [w64 (by omega) (by omega)]; omega
        rw [hb1]
        obtain ⟨u, ad2, hub, hA2, _⟩ := text_at c20 hvl (a := b) (by omega)
        cases hA2
        refine when_dec wd (ptr_in ⟨v, fun w' e => ?_, when_dec ⟨by omega, by omega⟩ (ptr_in ⟨u, fun w' e => ?_, sel_false (strict_no hvs.strict hub hva) (rest (fun t w' => t = false ∧ Ext [] w25 w') fun w' e => ⟨rfl, e⟩)⟩)⟩)
        · obtain ⟨v', ad', h1, h2, h3⟩ := text_at (((c20.ext0 e25).ext0 d25).ext0 e) hvl (a := b + 1) (by omega)
          rw [hva] at h1
          cases h1; cases h2
          exact h3
        · obtain ⟨v', ad', h1, h2, h3⟩ := text_at (((c20.ext0 e25).ext0 d25).ext0 e) hvl (a := b) (by omega)
          rw [hub] at h1
          cases h1; cases h2
          exact h3
      · rintro _ _ w64' ⟨rfl, e64⟩
        exact sel_false rfl e64
    · rintro _ _ w67 e67
      have sS67 := sS.ext0 e67
      refine Members_c sS67.ref fun A68 c68 w70 e70 own70 => ⟨_, _, _, rfl, ?_⟩
      have hml := mi_length S
      have hcl := count_le sS.ok
      refine ⟨fun t w' => ∃ j : Nat, t = j ∧ j ≤ S.count ∧ Ext [] w70 w', fun t _ => S.count - t.toNat, ⟨0, rfl, by omega, Ext.refl _ _⟩, ?_⟩
      rintro _ _ w75 ⟨j, rfl, hj, e75⟩
      have E75 : Ext [] w25 w75 := (e67.trans e70).trans e75
      refine sel_dec (fun hlt2 => ?_) (fun hge2 => ?_)
      · obtain ⟨m, ad3, hmj, rfl, rm⟩ := ints_at ((own_cells own70).ext0 e75) hml (a := j) (by omega)
        obtain ⟨i, hi, rfl⟩ := List.mem_map.1 (List.mem_of_getElem? hmj)
        obtain ⟨l, hl, hkv⟩ := (hSm i).1 ((mem_members sS.ok i).1 hi)
        have okl := (h.ok.lab _ _ hl).1
        refine when_dec ⟨by omega, by omega⟩ (ptr_in ⟨_, rm, Of_c ((h.ext0 E25).ext0 E75) _ fun A78 n78 c78 w81 e81 own81 => ⟨_, _, _, _, rfl, ?_⟩⟩)
        have own81' : OwnL LbL w81 w75.heap.size 36 A78 n78 c78 l := by
          have : (x.lab (Int.ofNat i)).getD [] = l := by
            show (x.lab ((i : Nat) : Int)).getD [] = l
            rw [hl]; rfl
          rw [this] at own81
          exact own81
        have hnl := own81'.len
        have hll := okl.len
        refine value_c own81'.cells hnl (by omega) okl.ris.nodup hkv ⟨_, _, rfl, fun t w' => t = false ∧ Ext [] w70 w', sel_false rfl (when_dec wd (ptr_in ⟨v, ?_, by rw [teq]; simp, e75.trans e81⟩)), ?_⟩
        · obtain ⟨v', ad', h1, h2, h3⟩ := text_at ((((c20.ext0 e25).ext0 E75)).ext0 e81) hvl (a := a) (by omega)
          rw [hva] at h1
          cases h1; cases h2
          exact h3
        · rintro _ _ w91 ⟨rfl, e91⟩
          refine sel_false rfl ?_
          rw [up64 j (by omega)]
          exact ⟨⟨j + 1, rfl, by omega, e91⟩, by simp only [Int.toNat_natCast]; omega⟩
      · refine Or_c (sA25.ext0 E75).ref (sS.ext0 E75).ref fun p92 b92 w94 C e94 _ _ sC hCN hCm => ⟨_, rfl, ?_⟩
        rw [up64 a (by omega)]
        refine ⟨⟨a + 1, rfl, by omega, ((e20.trans e25).trans E75).trans e94, p92, b92, C, rfl, sC, by rw [hCN, hAN, hSN, hN]; rfl, fun i => ?_⟩, by simp only [Int.toNat_natCast]; omega⟩
        rw [hCm, Bool.or_eq_true, hAm, hSm, snoc_at hva]
        constructor
        · rintro (⟨l, h1, v', h2, h3⟩ | ⟨l, h1, h2⟩)
          · exact ⟨l, h1, v', by simp [h2], h3⟩
          · exact ⟨l, h1, v, by simp, h2⟩
        · rintro ⟨l, h1, v', h2, h3⟩
          rcases List.mem_append.1 h2 with h2 | h2
          · exact .inl ⟨l, h1, v', h2, h3⟩
          · simp at h2; subst h2
            exact .inr ⟨l, h1, h3⟩
  · rintro _ _ _ w98 ⟨e98, pp, bb, ALL, rfl, sA, hAm⟩
    have E98 := E13.trans e98
    have sH98 := sH.ext0 e98
    have hall : ∀ i : Nat, (∃ l, x.lab (i : Int) = some l ∧ ∃ v ∈ vs, (key, v) ∈ l) ↔ ∃ l, x.lab (i : Int) = some l ∧ ∃ v, (key, v) ∈ l := fun i =>
      ⟨fun ⟨l, h1, v, _, h2⟩ => ⟨l, h1, v, h2⟩, fun ⟨l, h1, v, h2⟩ => ⟨l, h1, v, (hvs.mem v).2 ⟨_, l, h1, h2⟩, h2⟩⟩
    have c98 : Cells w98 A4 (SL.flat vs) := ((own6.cells.ext0 e10).ext0 e13).ext0 e98
    refine ⟨fun t w' => t = false ∧ Ext [] w98 w', Equal_c sA.ref sH98.ref fun t ht => ⟨_, rfl, sel_false ?_ ?_⟩, ?_⟩
    · rw [ht.2 fun i => by rw [Bool.eq_iff_iff, hAm, hHm, hall]]; rfl
    · refine In_c (h.ext0 E98) key (vs := vs) (fun j v hj => ?_) hvl (by omega) (fun b hb => by have := gb6 b hb; have := ((e10.trans e13).trans e98).size; omega) fun p103 b103 w105 I e105 _ _ sI hIN hIm => ⟨_, rfl, Equal_c sI.ref (sH98.ext0 e105).ref fun t2 ht2 => ⟨_, rfl, sel_false ?_ ?_⟩⟩
      · have hjl := (List.getElem?_eq_some_iff.1 hj).1
        obtain ⟨v', ad', h1, h2, h3⟩ := text_at c98 hvl (a := j) (by omega)
        rw [hj] at h1
        cases h1
        exact ⟨ad', h2, by rw [Int.toNat_natCast, Nat.mul_one] at h3; exact h3⟩
      · rw [ht2.2 fun i => by rw [Bool.eq_iff_iff, hIm, hHm, hall]]; rfl
      · refine Subset_c (sH98.ext0 e105).ref ((hL.ext0 E98).ext0 e105) fun t3 ht3 => ⟨_, rfl, ?_, e105⟩
        rw [ht3.2 fun i hi => by
          obtain ⟨l, h1, _⟩ := (hHm i).1 hi
          rw [hLm, h1]; rfl]
        rfl
    · rintro _ _ w114 ⟨rfl, e114⟩
      exact sel_false rfl (Count_c (sH98.ext0 e114).ref ⟨_, rfl, k w114 H (E98.trans e114) sH.ok (hHN.trans hN) hHm⟩)
end Go.Proofs.YtpipenkaaodlgaaDoor
