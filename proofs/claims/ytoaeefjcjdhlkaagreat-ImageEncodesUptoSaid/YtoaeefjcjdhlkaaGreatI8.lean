/- Image: the sum; the texts of a map, sorted. -/
import Derived.Test.YtoaeefjcjdhlkaaGreatI7
import Derived.Test.YtoaeefjcjdhlkaaGreatN7
import Derived.Test.YtoaeefjcjdhlkaaGreatSs
import Derived.Test.YtoaeefjcjdhlkaaGreatRm
import Derived.Test.YtoaeefjcjdhlkaaGreatRg
import Derived.Sort.OwnSorted
set_option linter.unusedVariables false
set_option linter.unusedSimpArgs false
namespace Go.Proofs.YtoaeefjcjdhlkaaGreat
open Go Go.V Go.B Go.Sort

/-! ### the sum -/
theorem foldl_one {α β : Type} (f : α → β → α) (a : α) (x : β) : [x].foldl f a = f a x := rfl
theorem fnv_step (h : Nat) (c : UInt8) (hh : h < 18446744073709551616) : IntKind.wrap .u64 ((IntKind.wrap .u64 ((BitVec.toNat (BitVec.ofInt 64 (h : Int) ^^^ BitVec.ofInt 64 (IntKind.wrap .u64 ((c.toNat : Int)))) : Nat) : Int)) * 1099511628211) = ((fnvStep h c : Nat) : Int) := by
  have hc := c.toNat_lt
  have hx : h ^^^ c.toNat < 18446744073709551616 := Nat.xor_lt_two_pow (n := 64) (by simpa using hh) (by omega)
  rw [wu64 (n := (c.toNat : Int)) (by omega), BitVec.ofInt_natCast, BitVec.ofInt_natCast, BitVec.toNat_xor, BitVec.toNat_ofNat, BitVec.toNat_ofNat, Nat.mod_eq_of_lt (by simpa using hh), Nat.mod_eq_of_lt (by omega)]
  generalize hX : h ^^^ c.toNat = x at hx
  rw [wu64 (n := (x : Int)) (by omega), wu64']
  unfold fnvStep
  rw [hX]
  omega
theorem sum_c {w : World} {A : Option Addr} {n c : Nat} {b : List UInt8} (hc : Cells w A (BL.flat b)) (hl : b.length = n) (hn : n < 4611686018427387904) {R : Ending → World → Prop} (k : R (.returned (.int .u64 ((sumS b : Nat) : Int))) w) : Calls Tryz.prog 33 #[.slice A n c] w R := by
  apply image_sum_nf
  refine ⟨fun h t w' => ∃ a : Nat, t = a ∧ a ≤ n ∧ h = (((b.take a).foldl fnvStep 14695981039346656037 : Nat) : Int) ∧ w' = w, fun _ t _ => n - t.toNat, ⟨0, rfl, by omega, by simp, rfl⟩, ?_⟩
  rintro _ _ _ _ ⟨a, rfl, ha, rfl, rfl⟩
  refine sel_dec (fun hlt => ?_) (fun hge => ?_)
  · obtain ⟨x, ad, hx, rfl, rd⟩ := Cells.row (L := BL) hc hl (a := a) (by omega)
    have hh := fnv_lt (b.take a) 14695981039346656037 (by omega)
    refine when_dec ⟨by omega, by omega⟩ (ptr_in ⟨_, by have := rd 0 _ rfl; rw [Addr.add_zero'] at this; exact this, ?_⟩)
    have e : (b.take (a + 1)).foldl fnvStep 14695981039346656037 = fnvStep ((b.take a).foldl fnvStep 14695981039346656037) x := by
      rw [snoc_at hx, List.foldl_append, foldl_one]
    refine lt_eq rfl (lt_eq (fnv_step _ _ hh) ?_)
    rw [up64 a (by omega)]
    exact ⟨⟨a + 1, rfl, by omega, by rw [e], rfl⟩, by simp only [Int.toNat_natCast]; omega⟩
  · obtain rfl : a = n := by omega
    rw [List.take_of_length_le (by omega)]
    exact k

/-! ### texts -/
def SL : Lay ByteArray := ⟨fun s => [.string s], 1, fun _ => rfl, fun x v hv => by
  simp only [List.mem_cons, List.not_mem_nil, or_false] at hv
  subst hv; rfl, by omega⟩
theorem uSl : Tryz.prog.underlying 56 = some (.slice 9) := by kernel_rfl
theorem iSt : (Tryz.prog.info? 9).map (fun i => (i.zero, i.size, i.bytes)) = some (some (.string ByteArray.empty), 1, 16) := by kernel_rfl
theorem i1s : (Tryz.prog.info? 56).map (·.size) = some 1 := by kernel_rfl
def srt (l : List ByteArray) : List ByteArray := ((l.map bs).mergeSort fun x y => decide (x ≤ y)).map unb
theorem SL_flat (l : List ByteArray) : SL.flat l = (l.map bs).map encStr := by
  induction l with
  | nil => rfl
  | cons x l ih => rw [Lay.flat_cons, ih]; simp [SL, bs, encStr]
theorem bsu : bs ∘ unb = id := by funext x; simp [bs, unb]
theorem ubs : unb ∘ bs = id := by funext x; rfl
theorem SL_srt (l : List ByteArray) : SL.flat (srt l) = ((l.map bs).mergeSort fun x y => decide (x ≤ y)).map encStr := by
  rw [SL_flat]
  unfold srt
  rw [List.map_map, List.map_map]
  congr 1
theorem srt_bs (l : List ByteArray) : (srt l).map bs = (l.map bs).mergeSort fun x y => decide (x ≤ y) := by
  unfold srt
  rw [List.map_map, bsu, List.map_id]
theorem srt_mem (l : List ByteArray) (k : ByteArray) : k ∈ srt l ↔ k ∈ l := by
  have h1 : ((l.map bs).mergeSort fun x y => decide (x ≤ y)).Perm (l.map bs) := List.mergeSort_perm _ _
  have h2 := h1.map unb
  rw [List.map_map, ubs, List.map_id] at h2
  exact h2.mem_iff
theorem OwnL.none0 {α : Type} {L : Lay α} {w : World} {B n c : Nat} {e : TypeId} {A : Option Addr} {xs : List α} (h : OwnL L w B e A n c xs) (hA : A ≠ none) : ∃ g cap cur, A = some ⟨g, 0, none⟩ ∧ c = cap ∧ B ≤ g ∧ w.heap[g]? = some (.cells cur e (0, 0)) ∧ n ≤ cap ∧ cap ≤ maxLen ∧ cur.size = cap * L.sz ∧ cur.toList.take (n * L.sz) = L.flat xs := by
  rcases h.2 with ⟨hv, _⟩ | ⟨g, cap, cur, hv, h1, h2, h3, h4, h5, h6⟩
  · injection hv with h1; exact absurd h1 hA
  · injection hv with e1 e2 e3
    exact ⟨g, cap, cur, e1, e3, h1, h2, h3, h4, h5, h6⟩
theorem srt_strict {l : List ByteArray} (hn : l.Nodup) : Strict (srt l) := by
  have tr : ∀ a b c : List UInt8, decide (a ≤ b) = true → decide (b ≤ c) = true → decide (a ≤ c) = true := fun a b c h1 h2 => by simp only [decide_eq_true_eq] at *; exact List.le_trans h1 h2
  have to : ∀ a b : List UInt8, (decide (a ≤ b) || decide (b ≤ a)) = true := fun a b => by simp only [Bool.or_eq_true, decide_eq_true_eq]; exact List.le_total a b
  have h1 := List.pairwise_mergeSort tr to (l.map bs)
  rw [← srt_bs, List.pairwise_map] at h1
  have hn2 : (srt l).Nodup := by
    have h1 : ((l.map bs).mergeSort fun x y => decide (x ≤ y)).Perm (l.map bs) := List.mergeSort_perm _ _
    have h2 := h1.map unb
    rw [List.map_map, ubs, List.map_id] at h2
    exact h2.nodup_iff.2 hn
  refine (h1.and hn2).imp (fun {a b} ⟨h, hne⟩ => ?_)
  have h : bs a ≤ bs b := by simpa using h
  rcases List.le_iff_lt_or_eq.1 h with h | h
  · exact h
  · exact absurd (bs_inj h) hne
theorem sort_c {w : World} {B n c : Nat} {A : Option Addr} {xs : List ByteArray} (own : OwnL SL w B 9 A n c xs) (hA : A ≠ none) (hn : n < 4611686018427387904) {R : Ending → World → Prop}
    (k : ∀ w', OwnL SL w' B 9 A n c (srt xs) → Ext (ownF A) w w' → R (.returned undef) w') : Calls Tryz.prog 57 #[.slice A n c] w R := by
  have hxl := own.len
  obtain ⟨g, cap, cur, rfl, rfl, hB, hh, hnc, hcm, hsz, htk⟩ := OwnL.none0 own hA
  have hss : (xs.map bs).length = n := by simpa using hxl
  have h1 : cur.toList.take (xs.map bs).length = (xs.map bs).map encStr := by
    rw [hss, ← SL_flat, ← htk]
    show _ = cur.toList.take (n * 1)
    rw [Nat.mul_one]
  have := Any.slices_Sort_string Tryz.lays190 g 0 c (xs.map bs) w (holds_of_block hh h1) (Array.getElem?_eq_some_iff.1 hh).1 (by omega)
  rw [hss] at this
  refine Calls.mono this ?_
  rintro e w' ⟨rfl, m, os, rfl⟩
  refine k _ ?_ (Ext.of_grown (A := some ⟨g, 0, none⟩) (n := n) (c := c) (grownBy_sorted _))
  have hl : ((xs.map bs).mergeSort fun x y => decide (x ≤ y)).length = (xs.map bs).length := List.length_mergeSort _
  have := ownsRow_sorted (n := m) (os := os) hl hB hh (by omega) hcm hsz
  rw [hss, ← SL_srt] at this
  exact this
set_option maxRecDepth 100000 in
/-- Nothing is sorted. -/
theorem sort_nil {w : World} {R : Ending → World → Prop} (k : R (.returned undef) w) : Calls Tryz.prog 57 #[.slice none 0 0] w R := by
  apply slices_Sort___string_string__nf
  apply math_bits_Len_nf
  apply math_bits_Len64_nf
  refine ⟨fun x n w' => x = 0 ∧ n = 0 ∧ w' = w, sel_false rfl ⟨rfl, rfl, rfl⟩, ?_⟩
  rintro _ _ _ _ ⟨rfl, rfl, rfl⟩
  refine ⟨fun x n w' => x = 0 ∧ n = 0 ∧ w' = _, sel_false rfl ⟨rfl, rfl, rfl⟩, ?_⟩
  rintro _ _ _ _ ⟨rfl, rfl, rfl⟩
  refine sel_false rfl (when_intro (by decide +kernel) ?_)
  refine ⟨_, rfl, _, rfl, ?_⟩
  apply slices_pdqsortOrdered_string__nf
  refine ⟨fun a b l _ _ w' => a = 0 ∧ b = 0 ∧ w' = _, fun _ _ _ _ _ _ => 0, ⟨rfl, rfl, rfl⟩, ?_⟩
  rintro _ _ l b1 b2 _ _ ⟨rfl, rfl, rfl⟩
  refine sel_true rfl ?_
  apply slices_insertionSortOrdered_string__nf
  refine ⟨fun i w' => i = 1 ∧ w' = _, fun _ _ => 0, ⟨rfl, rfl⟩, ?_⟩
  rintro _ _ _ ⟨rfl, rfl⟩
  exact sel_false rfl ⟨rfl, rfl, k⟩
theorem nodup_sub_len {α : Type} [DecidableEq α] : ∀ {l m : List α}, l.Nodup → (∀ a ∈ l, a ∈ m) → l.length ≤ m.length
  | [], _, _, _ => by simp
  | a :: l, m, hn, hs => by
    obtain ⟨ha, hd⟩ := List.nodup_cons.1 hn
    have hm := hs a (by simp)
    have h1 : l.length ≤ (m.erase a).length := nodup_sub_len hd fun b hb => (List.mem_erase_of_ne (by rintro rfl; exact ha hb)).2 (hs b (by simp [hb]))
    rw [List.length_erase_of_mem hm] at h1
    have := List.length_pos_of_mem hm
    simp only [List.length_cons]; omega

set_option maxRecDepth 100000 in
/-- The texts of a map, in some order. -/
theorem keys_c {w : World} {q mb : Nat} {m : List (ByteArray × Int)} (hm : MapAt w mb Value.string (Value.int .i64) m) (hq : BlkT w q [.map (some mb)] 75) (hml : m.length ≤ 4000000000000) {R : Ending → World → Prop}
    (k : ∀ A n c ks w', Ext [] w w' → OwnL SL w' w.heap.size 9 A n c ks → (∀ s, s ∈ ks ↔ s ∈ mkeys m) → ks.Nodup → n ≤ 4000000000000 → (A = none → n = 0 ∧ c = 0) → R (.returned (.slice A n c)) w') :
    Calls Tryz.prog 84 #[.slice none 0 0, .func (.func 58) #[] #[.pointer (some ⟨q, 0, none⟩)]] w R := by
  apply slices_AppendSeq___string_string__nf
  intro w5 h5
  obtain ⟨b5, x5, z5⟩ := box_new (cs := [.slice none 0 0]) h5
  refine when_intro ?_ ?_
  · kernel_rfl
  intro Rc l w8 hl h8 hy
  obtain ⟨lp8, mk8, x8, z8⟩ := enter_new hl h8
  have E8 := x5.trans x8
  have hml' := hm.lt
  have hql := hq.lt
  apply maps_Keys_map_string_int_string_int__l1_nf
  refine ptr_in ⟨_, by have := (hq.ext0 E8).cell (i := 0) rfl; exact this, ?_⟩
  obtain ⟨wi, hri, iti, xi⟩ := it_start (P := Tryz.prog) uM (.inr ⟨mb, rfl, hm.ext0 E8⟩)
  have zi := xi.size
  have hil := iti.lt
  have Ei := E8.trans xi
  have hsz : w.heap.size < w8.heap.size := by omega
  refine ⟨_, wi, hri, ?_⟩
  generalize hit : w8.heap.size = it at iti hil hsz ⊢
  refine ⟨fun w' => ∃ done A n c, LoopSt w' l Rc .ready none ∧ Mrk w' w5.heap.size ∧ BlkT w' w.heap.size [.slice A n c] 56 ∧ OwnL SL w' wi.heap.size 9 A n c (mkeys done) ∧ ItAt w' it (some mb) Value.string (Value.int .i64) m done ∧ Ext [] w w' ∧ wi.heap.size ≤ w'.heap.size ∧ (A = none → n = 0 ∧ c = 0), fun w' => m.length - itN w' it,
    ⟨[], none, 0, 0, lp8.ext xi (by simp), mk8.ext xi (by simp), (b5.ext0 x8).ext0 xi, OwnL.nil _ _ _, iti, Ei, Nat.le_refl _, fun _ => ⟨rfl, rfl⟩⟩, ?_⟩
  rintro _ w9 ⟨done, A, n, c, lp9, mk9, b9, own9, it9, E9, z9, hA9⟩
  have gb9 := own9.base
  have hdn : done.length = n := by have := own9.len; simpa [mkeys] using this
  have hle : ∀ {p : Nat}, p < wi.heap.size → p ∉ ownF A := fun hp hm' => by have := (gb9 _ hm').1; omega
  have hitl : it < wi.heap.size := hil
  rcases it_next (P := Tryz.prog) it9 0 with ⟨hr, hall, hnd⟩ | ⟨z, w13, hr, hre, e13, it13, hz, hlt⟩
  · refine .inl ⟨w9, hr, ⟨_, rfl⟩, .inl ⟨lp9, ?_⟩⟩
    have xs := setLoop_ext w9 l Rc .exhausted none
    have hlw : l ≠ w.heap.size := by omega
    refine ⟨A, n, c, (b9.ext xs (by simp; omega)).cell (i := 0) rfl, close_one (mk9.ext xs (by simp; omega)) fun w' ec => ?_⟩
    have E' : Ext [] w w' := (E9.trans' xs (fun b hb => by simp at hb; subst hb; exact .inr (by omega))).trans' ec (fun b hb => by simp at hb; subst hb; exact .inr (by omega))
    refine k A n c (mkeys done) w' E' (((own9.ext xs (fun b hb => by simp; have := (gb9 b hb).1; omega)).ext ec (fun b hb => by simp; have := (gb9 b hb).1; omega)).weaken (by omega)) (fun s => ?_) hnd ?_ hA9
    · unfold mkeys
      simp only [List.mem_map]
      constructor
      · rintro ⟨z, hz, rfl⟩; exact ⟨z, (hall z).1 hz, rfl⟩
      · rintro ⟨z, hz, rfl⟩; exact ⟨z, (hall z).2 hz, rfl⟩
    · have : done.length ≤ m.length := by
        rcases Nat.lt_or_ge m.length done.length with h | h
        · exfalso
          have h1 := it9.num
          have hsub : (mkeys done).length ≤ (mkeys m).length := by
            have hs : ∀ s ∈ mkeys done, s ∈ mkeys m := fun s hs => by
              obtain ⟨z, hz, rfl⟩ := List.mem_map.1 hs
              exact List.mem_map.2 ⟨z, (hall z).1 hz, rfl⟩
            exact nodup_sub_len hnd hs
          simp [mkeys] at hsub
          omega
        · exact h
      omega
  · refine .inr ⟨_, _, w13, hr, z.1, _, w13, hre, ?_⟩
    have lp13 := lp9.ext e13 (by simp; omega)
    have z13 := e13.size
    have own13 := own9.ext e13 (fun b hb => by simp; have := (gb9 b hb).1; omega)
    refine hy z.1 w13 _ lp13 ⟨lp13, ?_⟩
    have xb := setLoop_ext w13 l Rc .busy none
    have lpb : LoopSt (setLoop w13 l Rc .busy none) l Rc .busy none := setLoop_st _ _ lp13.lt
    have zb := setLoop_size w13 l Rc .busy none
    have bb := (b9.ext e13 (by simp; omega)).ext xb (by simp; omega)
    have mkb := (mk9.ext e13 (by simp; omega)).ext xb (by simp; omega)
    have itb := it13.ext xb (by simp; omega) (fun b hb => by cases hb; simp; omega)
    have ownb := own13.ext xb (fun b hb => by simp; have := (gb9 b hb).1; omega)
    have E9b : Ext [] w (setLoop w13 l Rc .busy none) := (E9.trans' e13 (fun b hb => by simp at hb; subst hb; exact .inr (by omega))).trans' xb (fun b hb => by simp at hb; subst hb; exact .inr (by omega))
    generalize setLoop w13 l Rc .busy none = wb at xb lpb zb bb mkb itb ownb E9b ⊢
    refine ⟨A, n, c, bb.cell (i := 0) rfl, fun w14 h14 => ?_⟩
    obtain ⟨b14, x14, z14⟩ := box_new (cs := [.string z.1]) h14
    obtain ⟨A', c', w15, hr15, own15, e15, hF⟩ := (ownb.ext0 x14).more (P := Tryz.prog) (t := 56) (ty := 56) (x := z.1) uSl iSt rfl (by omega) b14 (by omega) (by omega)
    have hx15 : Ext (ownF A) wb w15 := x14.up.trans' e15 (fun b hb => .inl hb)
    have bb15 := bb.ext hx15 (hle (by omega))
    obtain ⟨w16, hr16, b16, x16⟩ := store1 (P := Tryz.prog) (t := 56) (i := 0) (v := .slice A' (n + 1) c') i1s bb15 (by simp) rfl rfl
    have hA'n : A' ≠ none := by
      intro e
      subst e
      have := own15.len
      obtain ⟨g, bs', hg, _⟩ := own_blk own15 (by omega)
      cases hg
    have gA' : ∀ b ∈ ownF A', wi.heap.size ≤ b := fun b hb => (own15.base b hb).1
    have lp16 := (lpb.ext hx15 (hle (by omega))).ext x16 (by simp; omega)
    refine ⟨A', n + 1, c', w15, hr15, w16, hr16, lp16, true, rfl, sel_false rfl ?_⟩
    have xr := setLoop_ext w16 l Rc .ready none
    have zr := setLoop_size w16 l Rc .ready none
    have it16 := (itb.ext hx15 (hle hitl) (fun b hb => by cases hb; exact hle (by omega))).ext x16 (by simp; omega) (fun b hb => by cases hb; simp; omega)
    have itr := it16.ext xr (by simp; omega) (fun b hb => by cases hb; simp; omega)
    refine ⟨⟨done ++ [z], A', n + 1, c', setLoop_st _ _ lp16.lt, ((mkb.ext hx15 (hle (by omega))).ext x16 (by simp; omega)).ext xr (by simp; omega), b16.ext xr (by simp; omega), ?_, itr, ?_, by have := hx15.size; have := x16.size; omega, fun h => absurd h hA'n⟩, ?_⟩
    · rw [show mkeys (done ++ [z]) = mkeys done ++ [z.1] by simp [mkeys]]
      exact (own15.ext x16 (fun b hb hm' => by simp at hm'; have := gA' b hb; omega)).ext xr (fun b hb hm' => by simp at hm'; have := gA' b hb; omega)
    · exact ((E9b.trans' hx15 (fun b hb => .inr (by have := (gb9 b hb).1; omega))).trans' x16 (fun b hb => by simp at hb; subst hb; exact .inr (Nat.le_refl _))).trans' xr (fun b hb => by simp at hb; subst hb; exact .inr (by omega))
    · show m.length - itN _ it < m.length - itN _ it
      rw [itr.num, it9.num]; simp; omega
/-- The texts of a map, sorted. -/
theorem sorted_c {w : World} {mb : Nat} {m : List (ByteArray × Int)} (hm : MapAt w mb Value.string (Value.int .i64) m) (hml : m.length ≤ 4000000000000) {K : Option Addr → Nat → Nat → World → Prop}
    (k : ∀ A n c w', Ext [] w w' → OwnL SL w' w.heap.size 9 A n c (srt (mkeys m)) → n ≤ 4000000000000 → Strict (srt (mkeys m)) → K A n c w') :
    Calls Tryz.prog 31 #[.map (some mb)] w fun e19 w20 => ∃ f18, ∃ f18a, ∃ f18c, e19 = Ending.returned (Value.func (.func f18) f18a f18c) ∧
      Calls Tryz.prog 30 #[(Value.func (.func f18) f18a f18c)] w20 fun e22 w23 => ∃ A21, ∃ A21l, ∃ A21c, e22 = Ending.returned (Value.slice A21 A21l A21c) ∧ K A21 A21l A21c w23 := by
  apply maps_Keys_map_string_int_string_int__nf
  intro w2 h2
  obtain ⟨b2, x2, z2⟩ := box_new (cs := [.map (some mb)]) h2
  refine ⟨_, _, _, rfl, ?_⟩
  apply slices_Sorted_string__nf
  apply slices_Collect_string__nf
  have hnm := hm.nodup
  refine keys_c (hm.ext0 x2) b2 hml fun A n c ks w' e own hmem hnd hn hA => ⟨_, _, _, rfl, _, _, _, rfl, ?_⟩
  have hs : srt ks = srt (mkeys m) := strict_eq (srt_strict hnd) (srt_strict hnm) fun s => by rw [srt_mem, srt_mem, hmem]
  by_cases hAn : A = none
  · subst hAn
    obtain ⟨rfl, rfl⟩ := hA rfl
    have hk0 : ks = [] := List.length_eq_zero_iff.1 own.len
    refine sort_nil ⟨rfl, _, _, _, rfl, k none 0 0 w' (x2.trans e) ?_ (by omega) (srt_strict hnm)⟩
    have h0 : srt (mkeys m) = [] := by rw [← hs, hk0]; simp [srt]
    rw [h0]
    exact OwnL.nil _ _ _
  · refine sort_c own hAn (by omega) fun w2 own2 e2 => ⟨rfl, _, _, _, rfl, k A n c w2 ?_ ?_ hn (srt_strict hnm)⟩
    · exact (x2.trans e).trans' e2 (fun b hb => .inr (by have := (own.base b hb).1; omega))
    · rw [← hs]; exact own2.weaken (by omega)
end Go.Proofs.YtoaeefjcjdhlkaaGreat
