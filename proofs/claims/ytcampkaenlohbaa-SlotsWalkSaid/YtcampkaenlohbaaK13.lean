/- The document's table of names and slots: its names; New, Set. -/
import Derived.Test.YtcampkaenlohbaaK12
set_option linter.unusedVariables false
set_option linter.unusedSimpArgs false
namespace Go.Proofs.Ytcampkaenlohbaa
open Go Go.V Go.B

theorem i9s : (Try.prog.info? 9).map (·.size) = some 1 := by kernel_rfl
theorem shift_step {xs : List ByteArray} {z : ByteArray} {j : Nat} {y : ByteArray} (hj : xs[j]? = some y) : (xs.take (j + 1) ++ z :: xs.drop (j + 1)).set (j + 1) y = xs.take j ++ y :: xs.drop j := by
  obtain ⟨hl, e⟩ := List.getElem?_eq_some_iff.1 hj
  rw [List.set_append_right _ _ (by simp; omega)]
  have e1 : j + 1 - (xs.take (j + 1)).length = 0 := by simp; omega
  rw [e1, List.set_cons_zero, List.take_succ_eq_append_getElem hl, List.drop_eq_getElem_cons hl, e]
  simp
theorem shift_at {xs : List ByteArray} {z : ByteArray} {j : Nat} (hj : j ≤ xs.length) (y : ByteArray) : (xs.take j ++ z :: xs.drop j).set j y = xs.take j ++ y :: xs.drop j := by
  rw [List.set_append_right _ _ (by simp; omega)]
  have e1 : j - (xs.take j).length = 0 := by simp; omega
  rw [e1, List.set_cons_zero]
theorem shift_get {xs : List ByteArray} {z : ByteArray} {j : Nat} (hj : j < xs.length) : (xs.take (j + 1) ++ z :: xs.drop (j + 1))[j]? = xs[j]? := by
  rw [List.getElem?_append_left (by simp; omega), List.getElem?_take, if_pos (by omega)]
/-- A name is put in at its place. -/
theorem ins_c {w : World} {B m c j : Nat} {A : Option Addr} {xs : List ByteArray} {name : ByteArray} (own : OwnL SL w B 9 A m c xs) (hA : A ≠ none) (hj : j ≤ m) (hm : m ≤ 65536) (hB : B ≤ w.heap.size) {K : Option Addr → Nat → Nat → World → Prop}
    (k : ∀ A' c' w', OwnL SL w' B 9 A' (m + 1) c' (xs.take j ++ name :: xs.drop j) → A' ≠ none → Ext (ownF A) w w' → (ownF A' = ownF A ∨ ∀ g ∈ ownF A', w.heap.size ≤ g) → K A' (m + 1) c' w') :
    ∀ w22, w22 = (World.alloc w (.cells #[.string ByteArray.empty] 9)) →
      ∃ A23, ∃ A23l, ∃ A23c, ∃ w24, Sem.run Try.prog (Builtin.append_ #[41, 41] 41 #[.slice A m c, .slice (some ⟨Array.size (World.heap w), 0, none⟩) 1 1]) w22 = .ok (.slice A23 A23l A23c) w24 ∧
      V.lt (IntKind.wrap .i64 (((A23l : Nat) : Int) - 1)) fun x25 =>
      ∃ I26 : Int → World → Prop, ∃ μ27 : Int → World → Nat, I26 x25 w24 ∧
      ∀ j_28 (j29 : Nat → Value) (w30 : World), I26 j_28 w30 →
      (V.sel (decide (j_28 > (j : Int)))
      (V.when (decide ((0 : Int) ≤ (IntKind.wrap .i64 (j_28 - 1)) ∧ ((IntKind.wrap .i64 (j_28 - 1)) : Int) < ((A23l : Nat) : Int))) (V.ptr A23 fun a31 =>
      ∃ s32, World.cell? w30 (Addr.add a31 ((Int.toNat (IntKind.wrap .i64 (j_28 - 1))) * 1)) = some (.string s32) ∧
      V.when (decide ((0 : Int) ≤ j_28 ∧ (j_28 : Int) < ((A23l : Nat) : Int))) (V.ptr A23 fun a33 =>
      ∃ w34, Sem.run Try.prog (Instr.storeAt 9 (.pointer (some (Addr.add a33 ((Int.toNat j_28) * 1)))) (.string s32)) w30 = .ok () w34 ∧
      I26 (IntKind.wrap .i64 (j_28 - 1)) w34 ∧ μ27 (IntKind.wrap .i64 (j_28 - 1)) w34 < μ27 j_28 w30)))
      (V.when (decide ((0 : Int) ≤ (j : Int) ∧ ((j : Int) : Int) < ((A23l : Nat) : Int))) (V.ptr A23 fun a35 =>
      ∃ w36, Sem.run Try.prog (Instr.storeAt 9 (.pointer (some (Addr.add a35 ((Int.toNat (j : Int)) * 1)))) (.string name)) w30 = .ok () w36 ∧
      K A23 A23l A23c w36))) := by
  intro w1 h1
  have hxl := own.len
  obtain ⟨b1, x1, z1⟩ := box_new (cs := SL.enc ByteArray.empty) h1
  obtain ⟨A', c', w2, hr, own2, x2, hat⟩ := (own.ext0 x1).more (P := Try.prog) (t := 41) (ty := 41) (x := ByteArray.empty) u41 i9 rfl (by omega) b1 (by have := x1.size; omega) (by omega)
  have hA' : A' ≠ none := by
    rintro rfl
    rcases hat with h | h
    · cases A with
      | none => exact hA rfl
      | some a => simp [ownF] at h
    · simp [ownF] at h
  have hg : ownF A' = ownF A ∨ ∀ g ∈ ownF A', w.heap.size ≤ g := by
    rcases hat with h | h
    · exact .inl h
    · right; rw [h]; intro g hg; simp at hg; omega
  have f2 : Ext (ownF A) w w2 := x1.up.trans x2
  refine ⟨A', m + 1, c', w2, hr, ?_⟩
  rw [show (((m + 1 : Nat) : Int) - 1) = (m : Int) by omega, w64 (by omega) (by omega)]
  refine ⟨fun t w' => ∃ a : Nat, t = a ∧ j ≤ a ∧ a ≤ m ∧ Ext (ownF A) w w' ∧ ∃ z, OwnL SL w' B 9 A' (m + 1) c' (xs.take a ++ z :: xs.drop a), fun t _ => t.toNat, ⟨m, rfl, hj, Nat.le_refl _, f2, ByteArray.empty, ?_⟩, ?_⟩
  · rw [List.take_of_length_le (by omega), List.drop_eq_nil_of_le (by omega)]
    exact own2
  rintro _ _ w3 ⟨a, rfl, hja, ham, f3, z, own3⟩
  have hg3 : ∀ {w4}, Ext (ownF A') w3 w4 → Ext (ownF A) w w4 := fun e => f3.trans' e (fun b hb => by
    rcases hg with h | h
    · rw [h] at hb; exact .inl hb
    · exact .inr (h b hb))
  refine sel_dec (fun hlt => ?_) (fun hge => ?_)
  · obtain ⟨b, rfl⟩ : ∃ b, a = b + 1 := ⟨a - 1, by omega⟩
    have eb : ((b + 1 : Nat) : Int) - 1 = (b : Int) := by omega
    have hbl : b < xs.length := by omega
    rw [eb, w64 (x := (b : Int)) (by omega) (by omega)]
    obtain ⟨x, ad, hxx, hA3, rx⟩ := own3.row (a := b) (by omega)
    rw [shift_get hbl] at hxx
    have rx0 := rx 0 _ rfl
    rw [Addr.add_zero'] at rx0
    obtain ⟨g, w4, hA4, hr4, own4, x4⟩ := own3.set1 (P := Try.prog) (i := b + 1) (y := x) (v := .string x) (t := 9) (by omega) rfl rfl i9s rfl
    rw [hA3] at hA4
    cases hA4
    subst hA3
    refine when_dec ⟨by omega, by omega⟩ (ptr_in ⟨_, rx0, when_dec ⟨by omega, by omega⟩ (ptr_in ⟨w4, hr4, ⟨b, rfl, by omega, by omega, hg3 x4, x, ?_⟩, by simp only [Int.toNat_natCast]; omega⟩)⟩)
    rw [shift_step hxx] at own4
    exact own4
  · have : a = j := by omega
    subst this
    obtain ⟨g, w4, hA4, hr4, own4, x4⟩ := own3.set1 (P := Try.prog) (i := a) (y := name) (v := .string name) (t := 9) (by omega) rfl rfl i9s rfl
    have k' := k A' c' w4
    subst hA4
    rw [shift_at (by omega)] at own4
    exact when_dec ⟨by omega, by omega⟩ (ptr_in ⟨w4, hr4, k' own4 hA' (hg3 x4) hg⟩)
theorem ins_sorted {xs : List ByteArray} {name : ByteArray} {j : Nat} (hs : (xs.map bs).Pairwise (· ≤ ·)) (h1 : ∀ (i : Nat) (y : ByteArray), xs[i]? = some y → i < j → bs y < bs name) (h2 : ∀ y, xs[j]? = some y → ¬ bs y < bs name) : ((xs.take j ++ name :: xs.drop j).map bs).Pairwise (· ≤ ·) := by
  rw [List.pairwise_map] at hs ⊢
  have e : xs = xs.take j ++ xs.drop j := (List.take_append_drop _ _).symm
  rw [e] at hs
  obtain ⟨p1, p2, p3⟩ := List.pairwise_append.1 hs
  refine List.pairwise_append.2 ⟨p1, List.pairwise_cons.2 ⟨fun y hy => ?_, p2⟩, fun x hx y hy => ?_⟩
  · cases hd : xs.drop j with
    | nil => rw [hd] at hy; cases hy
    | cons u us =>
      have hu : xs[j]? = some u := by
        have : (xs.drop j)[0]? = some u := by rw [hd]; rfl
        rwa [List.getElem?_drop, Nat.add_zero] at this
      have h3 := List.not_lt.1 (h2 u hu)
      rw [hd] at hy p2
      rcases List.mem_cons.1 hy with rfl | hy
      · exact h3
      · exact List.le_trans h3 ((List.pairwise_cons.1 p2).1 y hy)
  · obtain ⟨i, hi⟩ := List.mem_iff_getElem?.1 hx
    rw [List.getElem?_take] at hi
    split at hi
    · rename_i hij
      have h3 := List.le_of_lt (h1 i x hi hij)
      rcases List.mem_cons.1 hy with rfl | hy
      · exact h3
      · exact p3 x hx y hy
    · cases hi
theorem ins_perm {xs : List ByteArray} {name : ByteArray} {j : Nat} : (xs.take j ++ name :: xs.drop j).Perm (xs ++ [name]) := by
  have e : xs ++ [name] = xs.take j ++ (xs.drop j ++ [name]) := by rw [← List.append_assoc, List.take_append_drop]
  rw [e]
  refine List.Perm.append_left _ ?_
  exact (List.perm_append_comm (l₁ := xs.drop j) (l₂ := [name])).symm
theorem refNames_c {w : World} {A : Option Addr} {n : Nat} {s : TS} {ds : List DR} (h : Dc w A n s ds) (most : Int) (c : Nat) {R : Ending → World → Prop} (k : ∀ A' n' c' w', Ext [] w w' → OwnL SL w' w.heap.size 9 A' n' c' (srt (names s.rows)) → R (.returned (.slice A' n' c')) w') :
    Calls Try.prog 37 #[.agg ⟨dt most A n c⟩] w R := by
  have hle := h.le
  have hlen := h.len
  unfold dt
  apply berthref05_Table_Names_nf
  intro w1 h1 w2 h2
  obtain ⟨b1, x1, z1⟩ := box_new (cs := dt most A n c) h1
  obtain ⟨b2, x2, z2⟩ := box_new (cs := []) h2
  have own2 : OwnL SL w2 w.heap.size 9 (some ⟨w1.heap.size, 0, none⟩) 0 0 [] := by
    refine own_of b2 (by omega) (Nat.zero_le _) (by simp only [maxLen]; omega) ?_ (by simp [Lay.flat])
    simp
  refine ⟨fun B m c' t w' => ∃ a : Nat, t = a ∧ a ≤ n ∧ Ext [] w w' ∧ BlkT w' w.heap.size (dt most A n c) 54 ∧ B ≠ none ∧ w.heap.size ∉ ownF B ∧ ∃ out, OwnL SL w' w.heap.size 9 B m c' out ∧ out.Perm ((ds.take a).map (·.name)) ∧ (out.map bs).Pairwise (· ≤ ·), fun _ _ _ t _ => n - t.toNat, ⟨0, rfl, by omega, x1.trans x2, b1.ext0 x2, by simp, by simp [ownF]; omega, [], own2, by simp, by simp⟩, ?_⟩
  rintro B m c' _ _ w3 ⟨a, rfl, ha, e3, b3, hBn, hB, out, own3, hp, hs⟩
  refine ⟨_, _, _, cadd b3 rfl, sel_dec (fun hlt => ?_) (fun hge => ?_)⟩
  · obtain ⟨x, ad, hxx, rfl, rx⟩ := (h.cells.ext0 e3).row hlen (a := a) (by omega)
    have hol := own3.len
    have hml : m = a := by
      have := hp.length_eq
      simp at this; omega
    subst hml
    refine ⟨_, _, _, cadd b3 rfl, when_dec ⟨by omega, by omega⟩ (ptr_in ⟨x.name, rx 1 _ rfl, ?_⟩)⟩
    refine ⟨fun t w' => ∃ j : Nat, t = j ∧ j ≤ m ∧ w' = w3 ∧ ∀ (i : Nat) (y : ByteArray), out[i]? = some y → i < j → bs y < bs x.name, fun t _ => m - t.toNat, ⟨0, rfl, by omega, rfl, fun i y _ hi => by omega⟩, ?_⟩
    rintro _ _ w4 ⟨j, rfl, hj, rfl, hlo⟩
    have tail : (∀ y, out[j]? = some y → ¬ bs y < bs x.name) → ∀ A' c'' w', OwnL SL w' w.heap.size 9 A' (m + 1) c'' (out.take j ++ x.name :: out.drop j) → A' ≠ none → Ext (ownF B) w4 w' → (ownF A' = ownF B ∨ ∀ g ∈ ownF A', w4.heap.size ≤ g) →
        (∃ a : Nat, IntKind.wrap .i64 ((m : Int) + 1) = a ∧ a ≤ n ∧ Ext [] w w' ∧ BlkT w' w.heap.size (dt most (some ad) n c) 54 ∧ A' ≠ none ∧ w.heap.size ∉ ownF A' ∧ ∃ out, OwnL SL w' w.heap.size 9 A' (m + 1) c'' out ∧ out.Perm ((ds.take a).map (·.name)) ∧ (out.map bs).Pairwise (· ≤ ·)) ∧
          n - (IntKind.wrap .i64 ((m : Int) + 1)).toNat < n - (m : Int).toNat := fun hstop A' c'' w' own' hA' x' hg => by
      rw [up64 m (by omega)]
      have hbase := own3.base
      refine ⟨⟨m + 1, rfl, by omega, e3.trans' x' (fun b hb => .inr (hbase b hb).1), b3.ext x' hB, hA', ?_, _, own', ?_, ins_sorted hs hlo hstop⟩, by simp only [Int.toNat_natCast]; omega⟩
      · rcases hg with h | h
        · rw [h]; exact hB
        · intro hm
          have := h _ hm
          have := b3.lt
          omega
      · rw [snoc_at hxx, List.map_append]
        exact ins_perm.trans (List.Perm.append_right _ hp)
    have hw := e3.size
    refine sel_dec (fun hlt2 => ?_) (fun hge2 => ?_)
    · obtain ⟨y, ad2, hyy, hB2, ry⟩ := own3.row (a := j) (by omega)
      have ry0 := ry 0 _ rfl
      rw [Addr.add_zero'] at ry0
      subst hB2
      refine when_dec ⟨by omega, by omega⟩ (ptr_in ⟨y, ry0, ?_⟩)
      rw [less_eq]
      refine sel_dec (fun hl => ?_) (fun hl => ins_c own3 hBn hj (by omega) hw (tail fun z hz => by rw [hyy] at hz; cases hz; exact hl))
      rw [up64 j (by omega)]
      refine ⟨⟨j + 1, rfl, by omega, rfl, fun i z hz hi => ?_⟩, by simp only [Int.toNat_natCast]; omega⟩
      by_cases e : i = j
      · subst e; rw [hyy] at hz; cases hz; exact hl
      · exact hlo i z hz (by omega)
    · exact ins_c own3 hBn hj (by omega) hw (tail fun z hz => by
        have := (List.getElem?_eq_some_iff.1 hz).1
        omega)
  · have : a = n := by omega
    subst this
    rw [List.take_of_length_le (by omega)] at hp
    have := srt_eq hp hs
    rw [srt_perm ((h.dm.perm.map (·.name))), drs_names] at this
    rw [this] at own3
    exact k B m c' w3 e3 own3
end Go.Proofs.Ytcampkaenlohbaa
