/- Image: Encode. -/
import Derived.Test.YtoaeefjcjdhlkaaGreatI8
set_option linter.unusedVariables false
set_option linter.unusedSimpArgs false
namespace Go.Proofs.YtoaeefjcjdhlkaaGreat
open Go Go.V Go.B

theorem fdiv8 (n : Nat) : Int.fdiv (n : Int) (2 ^ 8) = ((n / 256 : Nat) : Int) := by
  rw [Int.fdiv_eq_ediv_of_nonneg _ (by decide)]
  norm_cast
theorem le8_snoc : ∀ (j h : Nat), le8 (j + 1) h = le8 j h ++ [UInt8.ofNat (h / 256 ^ j % 256)]
  | 0, h => by simp [le8]
  | j + 1, h => by
    have ih := le8_snoc j (h / 256)
    rw [le8, ih, le8, List.cons_append, Nat.div_div_eq_div_mul, Nat.pow_succ, Nat.mul_comm]
theorem OutAt.mset {W w : World} {wb mb : Nat} {m : List (ByteArray × Int)} {F : List Nat} {out : List UInt8} (h : OutAt W wb mb m F out w) (s : ByteArray) (x : Int) :
    ∃ w', (Instr.mapUpdate 75 (.map (some mb)) (.string s) (.int .i64 x)).run Tryz.prog w = .ok () w' ∧ OutAt W wb mb (mput m s x) F out w' ∧ Ext [mb] w w' := by
  obtain ⟨w', hr, hm, he⟩ := store_map (ve := Value.int .i64) kS uM h.mp s x
  obtain ⟨A, n, c, rfl, hbl, ho, h1, h2⟩ := h.own
  exact ⟨w', hr, ⟨h.ex.trans' he (fun b hb => by simp at hb; subst hb; exact .inr h.mW), h.wW, h.mW, h.ne, hm, A, n, c, rfl, hbl.ext he (by simpa using h.ne), ho.ext he (fun b hb hm => by simp at hm; subst hm; exact h2 hb), h1, h2⟩, he⟩
theorem OutAt.fields {W w : World} {wb mb : Nat} {m : List (ByteArray × Int)} {F : List Nat} {out : List UInt8} (h : OutAt W wb mb m F out w) :
    w.cell? (Addr.add ⟨wb, 0, none⟩ 0) = some (.map (some mb)) ∧ ∃ A n c, w.cell? (Addr.add ⟨wb, 0, none⟩ 2) = some (.slice A n c) ∧ OwnL BL w W.heap.size 5 A n c out := by
  obtain ⟨A, n, c, rfl, hbl, ho, h1, h2⟩ := h.own
  exact ⟨cadd hbl rfl, A, n, c, cadd hbl rfl, ho⟩
theorem OutAt.eq {W w : World} {wb mb : Nat} {m : List (ByteArray × Int)} {F : List Nat} {out out' : List UInt8} (h : OutAt W wb mb m F out w) (e : out = out') : OutAt W wb mb m F out' w := e ▸ h
theorem head_bs : bs ⟨#[98, 101, 114, 116, 104, 1]⟩ = headB := by decide
/-- The places of the first texts are in the map. -/
def Placed (T : List ByteArray) (a : Nat) (m : List (ByteArray × Int)) : Prop := ∀ i s, i < a → T[i]? = some s → mget m s = some (i : Int)
theorem Placed.put {T : List ByteArray} (hn : T.Nodup) {a : Nat} {m : List (ByteArray × Int)} (h : Placed T a m) {s : ByteArray} (hs : T[a]? = some s) : Placed T (a + 1) (mput m s (a : Int)) := fun i x hi hx => by
  rw [mget_mput]
  rcases Nat.lt_or_ge i a with hlt | hge
  · have hne : s ≠ x := fun e => by
      subst e
      have hal := (List.getElem?_eq_some_iff.1 hs).1
      have := (List.getElem?_inj (l := T) (by omega) hn).1 (hx.trans hs.symm)
      omega
    rw [if_neg hne]
    exact h i x hlt hx
  · obtain rfl : i = a := by omega
    rw [hs] at hx; cases hx
    rw [if_pos rfl]
theorem Placed.all {T : List ByteArray} {m : List (ByteArray × Int)} (h : Placed T T.length m) : ∀ s ∈ T, mget m s = some ((idxS T s : Nat) : Int) := fun s hs => by
  have hl := idxS_lt hs
  exact h _ s hl (by rw [List.getElem?_eq_getElem hl, idxS_get rfl hl])
set_option maxRecDepth 100000 in
set_option maxHeartbeats 2000000 in
theorem Encode_c {w : World} {r : List D} {vs : List Value} (ht : tyR tState r) (hr : RepR w r vs) (hb : (innerS r).length ≤ 1000000000000) {R : Ending → World → Prop}
    (k1 : ∀ A n c w', Ext [] w w' → OwnL BL w' w.heap.size 5 A n c (imageS r) → (imageS r).length ≤ 16777216 → R (.returned (.tuple #[.slice A n c, .int .i64 0])) w')
    (k2 : ∀ w', Ext [] w w' → 16777216 < (imageS r).length → R (.returned (.tuple #[.slice none 0 0, .int .i64 265])) w') :
    Calls Tryz.prog 15 #[.agg ⟨vs⟩] w R := by
  have ht0 := ht
  have hr0 := hr
  generalize hT : tableOf (flatR r) = T at *
  have hTst : Strict T := hT ▸ table_strict _
  have hTn := hTst.nodup
  have hTl := table_len (flatR r)
  rw [hT] at hTl
  have hlen : (innerS r).length = 6 + ((tableB T).length + (piecesB T (flatR r)).length) := by rw [innerS, hT]; simp [headB]; omega
  have hpl := piecesB_len T (flatR r)
  have hmem : ∀ s ∈ texts (flatR r), s ∈ T := fun s hs => by rw [← hT, mem_table]; exact hs
  have hin : innerS r = headB ++ (sevens T.length ++ T.flatMap rowB) ++ piecesB T (flatR r) := by rw [innerS, hT, tableB]; simp
  have htb : (tableB T).length = (sevens T.length).length + (T.flatMap rowB).length := by simp [tableB]
  have himg : innerS r ++ le8 8 (sumS (innerS r)) = imageS r := rfl
  generalize innerS r = I at *
  generalize imageS r = J at *
  generalize hP : flatR r = P at *
  obtain ⟨s0, r0, u0, rfl, rfl, z0, ht, hr⟩ := inv_int ht hr
  obtain ⟨s1, r1, u1, rfl, rfl, z1, ht, hr⟩ := inv_int ht hr
  obtain ⟨s2, A2, n2, c2, m2, xs2, r2, u2, rfl, rfl, z2, ht, hr⟩ := inv_list ht hr
  obtain ⟨s3, A3, n3, c3, m3, xs3, r3, u3, rfl, rfl, z3, ht, hr⟩ := inv_list ht hr
  obtain ⟨s4, A4, n4, c4, m4, xs4, r4, u4, rfl, rfl, z4, ht, hr⟩ := inv_list ht hr
  obtain ⟨rfl, rfl⟩ := inv_nil ht hr
  apply image_Encode_nf
  intro w6 h6 w7 h7 w8 h8
  obtain ⟨b6, x6, z6⟩ := box_new h6
  obtain ⟨m7, x7, z7⟩ := map_new Value.string (Value.int .i64) h7
  obtain ⟨b8, x8, z8⟩ := box_new (cs := [.map (some w6.heap.size), .bool true, .slice none 0 0]) h8
  have E8 := (x6.trans x7).trans x8
  have hbl6 := b6.lt
  obtain ⟨G, hG⟩ := gath w w7.heap.size w6.heap.size 2000000000000
  refine ⟨_, _, _, _, _, _, _, _, _, _, _, cadd0 ((b6.ext0 x7).ext0 x8), ?_⟩
  have g0 : G.At [w7.heap.size, w6.heap.size] [] w8 := (hG _ _ _).2 ⟨rfl, E8, by omega, by omega, by omega, b8, [], m7.ext0 x8, fun s => by simp [mkeys, texts], fun k x h => by simp [mget] at h⟩
  refine wState_c G g0 ht0 hr0 (by rw [hP]; simp; omega) fun w15 F15 a15 e15 g15 => ⟨rfl, ?_⟩
  rw [hP] at a15
  obtain ⟨rfl, ex15, _, _, _, bl15, m, mp15, mk15, sm15⟩ := (hG _ _ _).1 a15
  rw [List.nil_append] at mk15
  generalize hwb : w7.heap.size = wb at *
  generalize hmb : w6.heap.size = mb at *
  have z15 := e15.size
  have bs15 := ((b6.ext0 x7).ext0 x8).ext e15 (by simp; omega)
  obtain ⟨w16, hr16, b16, e16⟩ := store1a (P := Tryz.prog) (t := 4) (i := 1) (v := .bool false) i1b bl15 (by simp) rfl rfl
  have z16 := e16.size
  refine ⟨w16, hr16, _, cadd b16 rfl, ?_⟩
  have mp16 := mp15.ext e16 (by simp; omega)
  have bs16 := bs15.ext e16 (by simp; omega)
  have ex16 : Ext [] w w16 := ex15.trans' e16 (fun b hb => by simp at hb; subst hb; exact .inr (by omega))
  have hml : m.length ≤ 1000000000000 := by
    have h1 := nodup_sub_len (mp16.nodup) (m := texts P) (fun s hs => (mk15 s).1 hs)
    have h2 : (texts P).length ≤ P.length := List.length_filterMap_le _ _
    simp [mkeys] at h1
    omega
  refine sorted_c (K := fun A21 A21l A21c w23 => _) mp16 (by omega) fun A n c w23 e23 own23 hn23 hst23 => ?_
  have hsT : srt (mkeys m) = T := strict_eq hst23 hTst fun s => by rw [srt_mem, mk15, ← hT, mem_table]
  rw [hsT] at own23
  have hTn' : T.length = n := own23.len
  have z23 := e23.size
  have gb23 := own23.base
  have b23 := b16.ext0 e23
  have o23 : OutAt w wb mb m [wb] [] w23 := ⟨ex16.trans e23, by omega, by omega, by omega, mp16.ext0 e23, none, 0, 0, rfl, b23, OwnL.nil _ _ _, by simp [ownF], by simp [ownF]⟩
  obtain ⟨A24, n24, c24, hc24, A25, n25, c25, w26, hr26, w27, hr27, F27, o27, e27, g27⟩ := o23.str ⟨#[98, 101, 114, 116, 104, 1]⟩ (by decide)
  rw [head_bs, List.nil_append] at o27
  refine ⟨A24, n24, c24, hc24, A25, n25, c25, w26, hr26, w27, hr27, ?_⟩
  rw [wu64 (n := ((n : Nat) : Int)) (by omega)]
  have hs10 := sevens_ten (n := n) (by omega)
  refine o27.count (by omega) (by simp [headB]) fun w29 F29 o29 e29 g29 => ⟨rfl, ?_⟩
  -- what holds of the writer's blocks
  have inv27 : Ext [wb, mb] w23 w27 ∧ ∀ b ∈ F27, b = wb ∨ w23.heap.size ≤ b := ⟨e27.weaken (fun b hb => .inl (by simp at hb; simp [hb])), fun b hb => by rcases g27 b hb with h | h; simp at h; exact .inl h; exact .inr h⟩
  have next : ∀ {w1 w2 : World} {F1 F2 : List Nat}, (Ext [wb, mb] w23 w1 ∧ ∀ b ∈ F1, b = wb ∨ w23.heap.size ≤ b) → Ext F1 w1 w2 → Grow w1 F1 F2 → (Ext [wb, mb] w23 w2 ∧ ∀ b ∈ F2, b = wb ∨ w23.heap.size ≤ b) := fun {w1 w2 F1 F2} h e g =>
    ⟨h.1.trans' e (fun b hb => by rcases h.2 b hb with h1 | h1; exact .inl (by simp [h1]); exact .inr h1), fun b hb => by rcases g b hb with h1 | h1; exact h.2 b h1; exact .inr (Nat.le_trans h.1.size h1)⟩
  have inv29 := next inv27 e29 g29
  have hA : ∀ b ∈ ownF A, b ∉ [wb, mb] := fun b hb hm => by have := (gb23 b hb).1; simp at hm; omega
  have hfl : ∀ a, ((T.take a).flatMap rowB).length ≤ (T.flatMap rowB).length := fun a => by
    rw [show T.flatMap rowB = (T.take a).flatMap rowB ++ (T.drop a).flatMap rowB by rw [← List.flatMap_append, List.take_append_drop], List.length_append]
    omega
  have hd : ∀ X : List UInt8, (headB ++ (sevens T.length ++ X)).length = 6 + ((sevens T.length).length + X.length) := fun X => by
    rw [List.length_append, List.length_append]; rfl
  refine ⟨fun t w' => ∃ (a : Nat) (m' : List (ByteArray × Int)) (F' : List Nat), t = a ∧ a ≤ n ∧ OutAt w wb mb m' F' (headB ++ (sevens T.length ++ (T.take a).flatMap rowB)) w' ∧ SmallM m' ∧ Placed T a m' ∧ (Ext [wb, mb] w23 w' ∧ ∀ b ∈ F', b = wb ∨ w23.heap.size ≤ b), fun t _ => n - t.toNat,
    ⟨0, m, F29, rfl, by omega, by rw [hTn']; simpa using o29, sm15, fun i s hi => by omega, inv29⟩, ?_⟩
  rintro _ _ w34 ⟨a, m', F34, rfl, ha, o34, sm34, pl34, inv34⟩
  have own34 := own23.ext inv34.1 hA
  refine sel_dec (fun hlt => ?_) (fun hge => ?_)
  · obtain ⟨s, ad, hs, rfl, rd⟩ := own34.row (a := a) (by omega)
    have hszs : s.size ≤ (T.flatMap rowB).length := by
      obtain ⟨p, q, e⟩ := List.append_of_mem (List.mem_of_getElem? hs)
      rw [e]; simp [rowB, bs_len]; omega
    refine when_dec ⟨by omega, by omega⟩ (ptr_in ⟨s, by have := rd 0 _ rfl; rw [Addr.add_zero'] at this; exact this, some mb, o34.fields.1, ?_⟩)
    obtain ⟨w38, hr38, o38, e38⟩ := o34.mset s (a : Int)
    refine ⟨w38, hr38, ?_⟩
    have inv38 : (Ext [wb, mb] w23 w38 ∧ ∀ b ∈ F34, b = wb ∨ w23.heap.size ≤ b) := ⟨inv34.1.trans' e38 (fun b hb => .inl (by simp at hb; simp [hb])), inv34.2⟩
    rw [wu64 (n := ((s.size : Nat) : Int)) (by omega)]
    have hfa := hfl a
    have hs10' := sevens_ten (n := T.length) (by omega)
    have hss10 := sevens_ten (n := s.size) (by omega)
    refine o38.count (by omega) (by rw [hd]; omega) fun w40 F40 o40 e40 g40 => ⟨rfl, ?_⟩
    have inv40 := next inv38 e40 g40
    obtain ⟨A41, n41, c41, hc41, A42, n42, c42, w43, hr43, w44, hr44, F44, o44, e44, g44⟩ := o40.str s (by rw [List.length_append, hd]; omega)
    refine ⟨A41, n41, c41, hc41, A42, n42, c42, w43, hr43, w44, hr44, ?_⟩
    rw [up64 a (by omega)]
    refine ⟨⟨a + 1, _, F44, rfl, by omega, o44.eq ?_, sm34.put (by omega), pl34.put hTn hs, next inv40 e44 g44⟩, by simp only [Int.toNat_natCast]; omega⟩
    rw [snoc_at hs, List.flatMap_append]
    simp [rowB]
  -- all texts are written: the state
  obtain rfl : a = n := by omega
  rw [List.take_of_length_le (by omega)] at o34
  have bs34 := (bs16.ext0 e23).ext inv34.1 (by simp; omega)
  have ho0 : (headB ++ (sevens T.length ++ T.flatMap rowB)).length ≤ 1000000000000 := by
    rw [hd]; rw [hin, List.length_append, hd] at hb; omega
  obtain ⟨G2, hG2⟩ := writ w wb mb 1000000000000 m' sm34 (headB ++ (sevens T.length ++ T.flatMap rowB)) (by omega)
  refine ⟨_, _, _, _, _, _, _, _, _, _, _, cadd0 bs34, ?_⟩
  have g1 : G2.At F34 [] w34 := (hG2 _ _ _).2 ⟨o34.eq (by simp [piecesM]), by simp [piecesM]⟩
  refine wState_c G2 g1 ht0 hr0 (by rw [hP]; simp; omega) fun w51 F51 a51 e51 g51 => ⟨rfl, ?_⟩
  rw [hP] at a51
  have o51 := ((hG2 _ _ _).1 a51).1
  rw [List.nil_append, piecesM_B (Placed.all (by rw [hTn']; exact pl34)) hmem, ← hin] at o51
  obtain ⟨_, A52, n52, c52, hc52, ow52⟩ := o51.fields
  refine ⟨A52, n52, c52, hc52, sum_c ow52.cells ow52.len (by have := ow52.len; omega) ⟨_, rfl, ?_⟩⟩
  refine ⟨fun h t w' => ∃ (j : Nat) (F' : List Nat), t = j ∧ j ≤ 8 ∧ h = ((sumS I / 256 ^ j : Nat) : Int) ∧ OutAt w wb mb m' F' (I ++ le8 j (sumS I)) w', fun _ t _ => 8 - t.toNat, ⟨0, F51, rfl, by omega, by simp, by simpa [le8] using o51⟩, ?_⟩
  rintro _ _ _ w61 ⟨j, F61, rfl, hj, rfl, o61⟩
  refine sel_dec (fun hlt => ?_) (fun hge => ?_)
  · have hl8 := le8_len j (sumS I)
    obtain ⟨A62, n62, c62, hc62, hap⟩ := o61.byte (by rw [List.length_append, hl8]; omega) (UInt8.ofNat (sumS I / 256 ^ j % 256))
    refine ⟨A62, n62, c62, hc62, fun w63 h63 => ?_⟩
    obtain ⟨A64, n64, c64, w65, hr65, w66, hr66, F66, o66, e66, g66⟩ := hap w63 (by rw [h63, byteN])
    refine ⟨A64, n64, c64, w65, hr65, w66, hr66, ?_⟩
    rw [fdiv8, up64 j (by omega)]
    exact ⟨⟨j + 1, F66, rfl, by omega, by rw [Nat.div_div_eq_div_mul, Nat.pow_succ], o66.eq (by rw [le8_snoc]; simp)⟩, by simp only [Int.toNat_natCast]; omega⟩
  obtain rfl : j = 8 := by omega
  obtain ⟨_, A67, n67, c67, hc67, ow67⟩ := o61.fields
  rw [himg] at ow67
  have hl67 := ow67.len
  refine ⟨A67, n67, c67, hc67, sel_dec (fun hgt => k2 w61 o61.ex (by omega)) (fun hle => ⟨A67, n67, c67, hc67, k1 A67 n67 c67 w61 o61.ex ow67 (by omega)⟩)⟩
end Go.Proofs.YtoaeefjcjdhlkaaGreat
