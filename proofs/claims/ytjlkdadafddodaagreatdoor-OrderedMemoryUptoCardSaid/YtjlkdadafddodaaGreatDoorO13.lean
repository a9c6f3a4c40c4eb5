/- Ordered: Keys. -/
import Derived.Test.YtjlkdadafddodaaGreatDoorO12
import Derived.Test.YtjlkdadafddodaaGreatDoorN6
import Derived.Test.YtjlkdadafddodaaGreatDoorSh
import Derived.Sort.OwnSorted
import Derived.Maps.RangeRun
set_option linter.unusedVariables false
set_option linter.unusedSimpArgs false
namespace Go.Proofs.YtjlkdadafddodaaGreatDoor
open Go Go.V Go.B Go.Sort

def SL : Lay ByteArray := ⟨fun s => [.string s], 1, fun _ => rfl, fun x v hv => by
  simp only [List.mem_cons, List.not_mem_nil, or_false] at hv
  subst hv; rfl, by omega⟩
theorem OwnL.none0 {α : Type} {L : Lay α} {w : World} {B n c : Nat} {e : TypeId} {A : Option Addr} {xs : List α} (h : OwnL L w B e A n c xs) (hA : A ≠ none) : ∃ g cap cur, A = some ⟨g, 0, none⟩ ∧ c = cap ∧ B ≤ g ∧ w.heap[g]? = some (.cells cur e (0, 0)) ∧ n ≤ cap ∧ cap ≤ maxLen ∧ cur.size = cap * L.sz ∧ cur.toList.take (n * L.sz) = L.flat xs := by
  rcases h.2 with ⟨hv, _⟩ | ⟨g, cap, cur, hv, h1, h2, h3, h4, h5, h6⟩
  · injection hv with h1; exact absurd h1 hA
  · injection hv with e1 e2 e3
    exact ⟨g, cap, cur, e1, e3, h1, h2, h3, h4, h5, h6⟩
def bs (s : ByteArray) : List UInt8 := s.data.toList
def unb (l : List UInt8) : ByteArray := ⟨l.toArray⟩
def srt (l : List ByteArray) : List ByteArray := ((l.map bs).mergeSort fun x y => decide (x ≤ y)).map unb
theorem SL_flat (l : List ByteArray) : SL.flat l = (l.map bs).map encStr := by
  induction l with
  | nil => rfl
  | cons x l ih => rw [Lay.flat_cons, ih]; simp [SL, bs, encStr]
theorem SL_srt (l : List ByteArray) : SL.flat (srt l) = ((l.map bs).mergeSort fun x y => decide (x ≤ y)).map encStr := by
  rw [SL_flat]
  unfold srt
  rw [List.map_map, List.map_map]
  congr 1
theorem bs_unb : bs ∘ unb = id := by funext x; simp [bs, unb]
theorem unb_bs : unb ∘ bs = id := by funext x; rfl
theorem srt_bs (l : List ByteArray) : (srt l).map bs = (l.map bs).mergeSort fun x y => decide (x ≤ y) := by
  unfold srt
  rw [List.map_map, bs_unb, List.map_id]
theorem srt_mem (l : List ByteArray) (k : ByteArray) : k ∈ srt l ↔ k ∈ l := by
  have h1 : ((l.map bs).mergeSort fun x y => decide (x ≤ y)).Perm (l.map bs) := List.mergeSort_perm _ _
  have h2 := h1.map unb
  rw [List.map_map, unb_bs, List.map_id] at h2
  exact h2.mem_iff
theorem srt_len (l : List ByteArray) : (srt l).length = l.length := by
  unfold srt
  rw [List.length_map, List.length_mergeSort, List.length_map]
def Strict (l : List ByteArray) : Prop := l.Pairwise fun a b => bs a < bs b
theorem bs_inj {a b : ByteArray} (h : bs a = bs b) : a = b := by
  have := congrArg unb h
  exact this
theorem srt_strict {l : List ByteArray} (hn : l.Nodup) : Strict (srt l) := by
  have tr : ∀ a b c : List UInt8, decide (a ≤ b) = true → decide (b ≤ c) = true → decide (a ≤ c) = true := fun a b c h1 h2 => by simp only [decide_eq_true_eq] at *; exact List.le_trans h1 h2
  have to : ∀ a b : List UInt8, (decide (a ≤ b) || decide (b ≤ a)) = true := fun a b => by simp only [Bool.or_eq_true, decide_eq_true_eq]; exact List.le_total a b
  have h1 := List.pairwise_mergeSort tr to (l.map bs)
  rw [← srt_bs, List.pairwise_map] at h1
  have hn2 : (srt l).Nodup := by
    have h1 : ((l.map bs).mergeSort fun x y => decide (x ≤ y)).Perm (l.map bs) := List.mergeSort_perm _ _
    have h2 := h1.map unb
    rw [List.map_map, unb_bs, List.map_id] at h2
    exact h2.nodup_iff.2 hn
  refine (h1.and hn2).imp (fun {a b} ⟨h, hne⟩ => ?_)
  have h : bs a ≤ bs b := by simpa using h
  rcases List.le_iff_lt_or_eq.1 h with h | h
  · exact h
  · exact absurd (bs_inj h) hne
theorem sort_c {w : World} {B n c : Nat} {A : Option Addr} {xs : List ByteArray} (own : OwnL SL w B 9 A n c xs) (hA : A ≠ none) (hn : n < 4611686018427387904) {R : Ending → World → Prop}
    (k : ∀ w', OwnL SL w' B 9 A n c (srt xs) → Ext (ownF A) w w' → R (.returned undef) w') : Calls Tryz.prog 61 #[.slice A n c] w R := by
  have hxl := own.len
  obtain ⟨g, cap, cur, rfl, rfl, hB, hh, hnc, hcm, hsz, htk⟩ := OwnL.none0 own hA
  have hss : (xs.map bs).length = n := by simpa using hxl
  have h1 : cur.toList.take (xs.map bs).length = (xs.map bs).map encStr := by
    rw [hss, ← SL_flat, ← htk]
    show _ = cur.toList.take (n * 1)
    rw [Nat.mul_one]
  have := Any.slices_Sort_string Tryz.lays190 g 0 c (xs.map bs) w (holds_of_block hh h1) (Array.getElem?_eq_some_iff.1 hh).1 (by omega)
  rw [hss] at this
  refine Calls.mono this ?_
  rintro e w' ⟨rfl, m, os, rfl⟩
  refine k _ ?_ (Ext.of_grown (A := some ⟨g, 0, none⟩) (n := n) (c := c) (grownBy_sorted _))
  have hl : ((xs.map bs).mergeSort fun x y => decide (x ≤ y)).length = (xs.map bs).length := List.length_mergeSort _
  have := ownsRow_sorted (n := m) (os := os) hl hB hh (by omega) hcm hsz
  rw [hss, ← SL_srt] at this
  exact this
set_option maxRecDepth 100000 in
/-- Nothing is sorted. -/
theorem sort_nil {w : World} {R : Ending → World → Prop} (k : R (.returned undef) w) : Calls Tryz.prog 61 #[.slice none 0 0] w R := by
  apply slices_Sort___string_string__nf
  apply math_bits_Len_nf
  apply math_bits_Len64_nf
  refine ⟨fun x n w' => x = 0 ∧ n = 0 ∧ w' = w, sel_false rfl ⟨rfl, rfl, rfl⟩, ?_⟩
  rintro _ _ _ _ ⟨rfl, rfl, rfl⟩
  refine ⟨fun x n w' => x = 0 ∧ n = 0 ∧ w' = _, sel_false rfl ⟨rfl, rfl, rfl⟩, ?_⟩
  rintro _ _ _ _ ⟨rfl, rfl, rfl⟩
  refine sel_false rfl (when_intro (by decide +kernel) ?_)
  refine ⟨_, rfl, _, rfl, ?_⟩
  apply slices_pdqsortOrdered_string__nf
  refine ⟨fun a b l _ _ w' => a = 0 ∧ b = 0 ∧ w' = _, fun _ _ _ _ _ _ => 0, ⟨rfl, rfl, rfl⟩, ?_⟩
  rintro _ _ l b1 b2 _ _ ⟨rfl, rfl, rfl⟩
  refine sel_true rfl ?_
  apply slices_insertionSortOrdered_string__nf
  refine ⟨fun i w' => i = 1 ∧ w' = _, fun _ _ => 0, ⟨rfl, rfl⟩, ?_⟩
  rintro _ _ _ ⟨rfl, rfl⟩
  exact sel_false rfl ⟨rfl, rfl, k⟩
theorem u43 : Tryz.prog.underlying 33 = some (.slice 9) := by kernel_rfl
theorem i9 : (Tryz.prog.info? 9).map (fun i => (i.zero, i.size, i.bytes)) = some (some (.string ByteArray.empty), 1, 16) := by kernel_rfl
theorem ext_setBlock (w : World) (r : Nat) (o : Obj) : Ext [r] w (Go.ChangeMaps.setBlock w r o) :=
  ⟨rfl, rfl, rfl, by simp [Go.ChangeMaps.setBlock], fun b hb hF => by
    have : r ≠ b := fun e => hF (by simp [e])
    simp [Go.ChangeMaps.setBlock, Array.getElem?_setIfInBounds, this]⟩
/-- What Keys tells. -/
structure KeysOf (x : Ix) (xs : List ByteArray) : Prop where
  strict : Strict xs
  mem : ∀ k, k ∈ xs ↔ x.cols k ≠ none
theorem Keys_nil {w : World} {R : Ending → World → Prop} (k : R (.returned (.slice none 0 0)) w) : Calls Tryz.prog 32 #[.pointer none] w R := by
  apply ordered_Index_Keys_nf
  exact sel_false rfl (sort_nil ⟨rfl, k⟩)
set_option maxRecDepth 4000 in
theorem Keys_c {w : World} {F : List Nat} {cnt : Nat} {x : Ix} (h : IxAt w F cnt x) (hc : cnt ≤ 8000000000000) {R : Ending → World → Prop}
    (k : ∀ A n c xs w', Ext [] w w' → OwnL SL w' w.heap.size 9 A n c xs → KeysOf x xs → n ≤ cnt → R (.returned (.slice A n c)) w') :
    Calls Tryz.prog 32 #[.pointer (some ⟨x.q, 0, none⟩)] w R := by
  apply ordered_Index_Keys_nf
  obtain ⟨m, hm, hm2, hm3⟩ := h.mp
  have hML := hm.lt
  obtain ⟨es, clock, hb, hes, hnd, hbn, hbc⟩ := hm
  have hel : es.size = m.length := by have := congrArg List.length hes; simpa using this
  have hkeys : es.toList.map (·.key) = (mkeys m).map Value.string := by
    have := congrArg (List.map (·.1)) hes
    rw [List.map_map, List.map_map] at this
    unfold mkeys
    rw [List.map_map]
    exact this
  have hknd : (es.toList.map (·.key)).Nodup := by
    rw [hkeys]
    exact List.Pairwise.map _ (fun a b hne e => hne (by injection e)) hnd
  have hkinj : ∀ {a b : MapEntry}, a ∈ es.toList → b ∈ es.toList → a.key = b.key → a = b := fun ha hb' e => nodup_uniq hknd ha hb' e
  have fin : ∀ (xs : List ByteArray) (S : List MapEntry), (∀ e ∈ S, e ∈ es.toList) → (S.map (·.born)).Nodup → xs.map Value.string = S.map (·.key) → (∀ e ∈ es.toList, e.born ∈ S.map (·.born)) → KeysOf x (srt xs) := by
    intro xs S hS hSn hxs hall
    have hSk : (S.map (·.key)).Nodup := by
      have : S.Pairwise fun a b => a.born ≠ b.born := by simpa [List.Nodup, List.pairwise_map] using hSn
      rw [List.Nodup, List.pairwise_map]
      exact this.imp_of_mem fun ha hb' hne e => hne (by rw [hkinj (hS _ ha) (hS _ hb') e])
    rw [← hxs] at hSk
    have hxn : xs.Nodup := by
      have := hSk
      rw [List.Nodup, List.pairwise_map] at this
      exact this.imp fun hne e => hne (by rw [e])
    refine ⟨srt_strict hxn, fun kk => ?_⟩
    rw [srt_mem]
    have e1 : kk ∈ xs ↔ Value.string kk ∈ S.map (·.key) := by
      rw [← hxs, List.mem_map]
      constructor
      · intro hk; exact ⟨kk, hk, rfl⟩
      · rintro ⟨a, ha, e⟩; injection e with e; subst e; exact ha
    have e2 : Value.string kk ∈ S.map (·.key) ↔ Value.string kk ∈ es.toList.map (·.key) := by
      rw [List.mem_map, List.mem_map]
      constructor
      · rintro ⟨e, he, hk⟩; exact ⟨e, hS e he, hk⟩
      · rintro ⟨e, he, hk⟩
        obtain ⟨s, hs, hsb⟩ := List.mem_map.1 (hall e he)
        have := born_inj hbn (hS s hs) he hsb
        subst this
        exact ⟨s, hs, hk⟩
    have e3 : Value.string kk ∈ es.toList.map (·.key) ↔ kk ∈ mkeys m := by
      rw [hkeys, List.mem_map]
      constructor
      · rintro ⟨a, ha, e⟩; injection e with e; subst e; exact ha
      · intro hk; exact ⟨kk, hk, rfl⟩
    rw [e1, e2, e3]
    have := mget_none (m := m) (k := kk)
    rw [hm3] at this
    cases hcc : x.cols kk with
    | none =>
      rw [hcc] at this
      simp only [Option.map_none, true_iff] at this
      simp [this]
    | some C =>
      rw [hcc] at this
      simp at this
      simp [this]
  refine sel_true rfl (ptr_in ⟨_, cadd h.hdr rfl, ?_⟩)
  refine ⟨_, _, run_range_map w _ _ _ x.M es clock um_si hb, ?_⟩
  have x5 : Ext [] w (w.alloc (.mapIter (some x.M) clock #[] clock)) := (Ext.refl _ _).alloc _
  have z5 : (w.alloc (.mapIter (some x.M) clock #[] clock)).heap.size = w.heap.size + 1 := World.size_alloc _ _
  have r5 : (w.alloc (.mapIter (some x.M) clock #[] clock)).heap[w.heap.size]? = some (.mapIter (some x.M) clock #[] clock) := by
    show (w.heap.push _)[w.heap.size]? = _; simp
  generalize w.alloc (.mapIter (some x.M) clock #[] clock) = w5 at x5 z5 r5 ⊢
  refine ⟨fun A n c w' => ∃ (seen : Array Nat) (c0 : Nat) (S : List MapEntry) (xs : List ByteArray), Ext [w.heap.size] w5 w' ∧ w'.heap[w.heap.size]? = some (.mapIter (some x.M) clock seen c0) ∧ clock ≤ c0 ∧ S.map (·.born) = seen.toList ∧ (S.map (·.born)).Nodup ∧ (∀ e ∈ S, e ∈ es.toList) ∧ xs.map Value.string = S.map (·.key) ∧ S.length + (leftOf es seen).size ≤ es.size ∧ OwnL SL w' w5.heap.size 9 A n c xs,
    fun _ n _ _ => es.size - n, ⟨#[], clock, [], [], Ext.refl _ _, r5, Nat.le_refl _, rfl, by simp, by simp, rfl, by simp only [List.length_nil, Nat.zero_add]; exact Array.size_filter_le, OwnL.nil _ _ _⟩, ?_⟩
  rintro A n c _ w10 ⟨seen, c0, S, xs, g1, g2, g3, g4, g5, g6, g7, g8, g9⟩
  have hxl := g9.len
  have hSx : xs.length = S.length := by have := congrArg List.length g7; simpa using this
  have hb10 : w10.heap[x.M]? = some (.map es clock) := by
    rw [g1.same x.M (by omega) (by simp; omega), x5.same x.M hML (by simp)]; exact hb
  have gb := g9.base
  have z10 := g1.size
  rcases run_next_at (P := Tryz.prog) w10 0 w.heap.size x.M clock c0 seen es clock g2 hb10 hbc g3 with ⟨h0, hr⟩ | ⟨e, he, w1, hw1, hr⟩
  · left
    refine ⟨_, hr, ?_⟩
    have hk := fin xs S g6 g5 g7 (fun e he => by
      have := all_seen es seen h0 e he
      rw [g4]
      simpa using this)
    have hn : n ≤ cnt := by omega
    have eW : Ext [] w w10 := x5.trans' g1 (fun b hb => .inr (by simp at hb; omega))
    by_cases hA : A = none
    · subst hA
      have hx0 : n = 0 ∧ c = 0 := by
        rcases g9.2 with ⟨hv, h1⟩ | ⟨g, cap, cur, hv, _⟩
        · injection hv with _ _ h2; exact ⟨by have := own_cap g9; omega, h2⟩
        · injection hv with h1; cases h1
      obtain ⟨rfl, rfl⟩ := hx0
      have hx : xs = [] := List.length_eq_zero_iff.1 hxl
      subst hx
      exact sort_nil ⟨rfl, k none 0 0 _ w10 eW (OwnL.nil _ _ _) (by simpa [srt] using hk) (by omega)⟩
    · exact sort_c g9 hA (by omega) fun w' own' e' => ⟨rfl, k A n c _ w' (eW.trans' e' (fun b hb => .inr (by have := (gb b hb).1; omega))) (own'.weaken (by omega)) hk hn⟩
  · right
    have hr' := hr
    obtain ⟨hem, hes'⟩ := mem_left he
    have hshr := left_shrinks es seen e he
    have e1 : Ext [] w10 w1 := by rcases hw1 with rfl | rfl; exact Ext.refl _ _; exact (Ext.refl _ _).drew
    have hs1 : w1.heap.size = w10.heap.size := by rcases hw1 with rfl | rfl <;> rfl
    have x16 := ext_setBlock w1 w.heap.size (.mapIter (some x.M) clock (seen.push e.born) clock)
    have hr16 : (Go.ChangeMaps.setBlock w1 w.heap.size (.mapIter (some x.M) clock (seen.push e.born) clock)).heap[w.heap.size]? = some (.mapIter (some x.M) clock (seen.push e.born) clock) := by
      simp [Go.ChangeMaps.setBlock, Array.getElem?_setIfInBounds]; omega
    generalize Go.ChangeMaps.setBlock w1 w.heap.size (.mapIter (some x.M) clock (seen.push e.born) clock) = w16 at hr x16 hr16
    have e16 : Ext [w.heap.size] w10 w16 := (e1.up).trans x16
    have hb16 : w16.heap[x.M]? = some (.map es clock) := by
      rw [e16.same x.M (by omega) (by simp; omega)]; exact hb10
    obtain ⟨kk, hkk⟩ : ∃ kk : ByteArray, e.key = .string kk := by
      have : e.key ∈ es.toList.map (·.key) := List.mem_map.2 ⟨e, hem, rfl⟩
      rw [hkeys] at this
      obtain ⟨a, _, ha⟩ := List.mem_map.1 this
      exact ⟨a, ha.symm⟩
    have hre := run_entry_at (P := Tryz.prog) w16 w.heap.size x.M clock seen es clock e hr16 hb16 hem hbn
    rw [hkk] at hre
    refine ⟨_, _, w16, hr, _, _, w16, hre, fun w20 h20 => ?_⟩
    obtain ⟨b20, x20, z20⟩ := box_new (cs := [.string kk]) h20
    have z16 := e16.size
    have own20 : OwnL SL w20 w5.heap.size 9 A n c xs := OwnL.ext0 (OwnL.ext g9 e16 (fun b hb => by have := (gb b hb).1; simp; omega)) x20
    obtain ⟨A', c', w22, hr22, own22, e22, hF⟩ := own20.more (P := Tryz.prog) (ty := 33) (x := kk) u43 i9 rfl (by omega) b20 (by omega) (by omega)
    have hit : w.heap.size ∉ ownF A := fun hm => by have := (gb _ hm).1; omega
    refine ⟨_, _, _, w22, hr22, ⟨seen.push e.born, clock, S ++ [e], xs ++ [kk], ?_, ?_, Nat.le_refl _, ?_, ?_, ?_, ?_, ?_, own22⟩, ?_⟩
    · exact (((g1.trans e16).then x20).trans' e22 (fun b hb => .inr (gb b hb).1))
    · have hlt20 : w.heap.size < w20.heap.size := by omega
      rw [e22.same _ hlt20 hit, x20.same _ (by omega) (by simp)]; exact hr16
    · rw [List.map_append, g4]; simp
    · rw [List.map_append, List.nodup_append]
      refine ⟨g5, by simp, fun a ha b hb' => ?_⟩
      simp at hb'
      subst hb'
      intro e2
      subst e2
      rw [g4] at ha
      have : seen.contains e.born = true := by simpa using ha
      rw [this] at hes'; cases hes'
    · intro a ha
      rcases List.mem_append.1 ha with ha | ha
      · exact g6 a ha
      · simp at ha; subst ha; exact hem
    · rw [List.map_append, List.map_append, g7]; simp [hkk]
    · simp only [List.length_append, List.length_singleton]; omega
    · show es.size - (n + 1) < es.size - n
      omega
end Go.Proofs.YtjlkdadafddodaaGreatDoor
