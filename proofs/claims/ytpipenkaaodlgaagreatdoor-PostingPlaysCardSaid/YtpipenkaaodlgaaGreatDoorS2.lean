/- Sets: laws on members, and the calls that answer a new set or hold two sets against one another. -/
import Derived.Test.YtpipenkaaodlgaaGreatDoorS
set_option linter.unusedVariables false
set_option linter.unusedSimpArgs false
namespace Go.Proofs.YtpipenkaaodlgaaGreatDoor
open Go Go.V Go.B

def SetV.w (S : SetV) (k : Nat) : Nat := S.ws.getD k 0
theorem SetV.mem_w (S : SetV) (i : Nat) : S.mem i = (S.w (i / 64)).testBit (i % 64) := rfl
theorem SetV.Ok.wlt {S : SetV} (h : S.Ok) (k : Nat) : S.w k < 18446744073709551616 := h.lt k
theorem SetV.Ok.w_out {S : SetV} (h : S.Ok) {k : Nat} (hk : (S.N + 63) / 64 ≤ k) : S.w k = 0 := by
  have := h.len
  simp [SetV.w, List.getD_eq_getElem?_getD, show S.ws.length ≤ k by omega]
theorem bits_eq {x y : Nat} (hx : x < 18446744073709551616) (hy : y < 18446744073709551616) (h : ∀ j, j < 64 → x.testBit j = y.testBit j) : x = y := by
  apply Nat.eq_of_testBit_eq
  intro j
  rcases Nat.lt_or_ge j 64 with hj | hj
  · exact h j hj
  · have p : (18446744073709551616 : Nat) ≤ 2 ^ j := by
      have : (2 : Nat) ^ 64 ≤ 2 ^ j := Nat.pow_le_pow_right (by omega) hj
      omega
    rw [Nat.testBit_lt_two_pow (Nat.lt_of_lt_of_le hx p), Nat.testBit_lt_two_pow (Nat.lt_of_lt_of_le hy p)]
theorem SetV.w_bit (S : SetV) (k j : Nat) (hj : j < 64) : (S.w k).testBit j = S.mem (64 * k + j) := by
  rw [SetV.mem_w, show (64 * k + j) / 64 = k by omega, show (64 * k + j) % 64 = j by omega]

/-! ### a set told word by word -/
def ofWords (N : Nat) (F : Nat → Nat) : SetV := ⟨N, (List.range ((N + 63) / 64)).map F⟩
theorem ofWords_w (N : Nat) (F : Nat → Nat) (k : Nat) : (ofWords N F).w k = if k < (N + 63) / 64 then F k else 0 := by
  unfold ofWords SetV.w
  simp only [List.getD_eq_getElem?_getD, List.getElem?_map]
  by_cases h : k < (N + 63) / 64
  · simp [h]
  · simp [h]
theorem ofWords_mem (N : Nat) (F : Nat → Nat) (i : Nat) : (ofWords N F).mem i = (decide (i / 64 < (N + 63) / 64) && (F (i / 64)).testBit (i % 64)) := by
  rw [SetV.mem_w, ofWords_w]
  by_cases h : i / 64 < (N + 63) / 64
  · simp [h]
  · simp [h]
theorem ofWords_ok {N : Nat} {F : Nat → Nat} (hN : N ≤ 65536) (hlt : ∀ k, F k < 18446744073709551616) (ht : ∀ i, N ≤ i → (F (i / 64)).testBit (i % 64) = false) : (ofWords N F).Ok :=
  ⟨hN, by simp [ofWords], fun k => by
    have := ofWords_w N F k
    unfold SetV.w at this
    rw [this]; split
    · exact hlt k
    · omega, fun i hi => by rw [ofWords_mem, ht i hi]; simp⟩
/-- The first k words are there, the others are not yet. -/
def stage (N k : Nat) (F : Nat → Nat) : SetV := ofWords N fun j => if j < k then F j else 0
theorem stage_ok {N k : Nat} {F : Nat → Nat} (h : (ofWords N F).Ok) : (stage N k F).Ok :=
  ⟨h.N, by simp [stage, ofWords], fun j => by
    have e := ofWords_w N (fun j => if j < k then F j else 0) j
    have e2 := ofWords_w N F j
    have l := h.wlt j
    unfold SetV.w at e
    unfold stage
    rw [e]
    rw [e2] at l
    split
    · rename_i hj; rw [if_pos hj] at l; split
      · exact l
      · omega
    · omega, fun i hi => by
    have t := h.tail i hi
    unfold stage
    rw [ofWords_mem] at t ⊢
    by_cases hk : i / 64 < k
    · simp only [hk, if_true]; exact t
    · simp [hk]⟩
theorem stage_zero (N : Nat) (F : Nat → Nat) : stage N 0 F = ⟨N, List.replicate ((N + 63) / 64) 0⟩ := by
  unfold stage ofWords
  congr 1
  apply List.ext_getElem
  · simp
  · intro i h1 h2; simp
theorem stage_full {N k : Nat} (F : Nat → Nat) (h : (N + 63) / 64 ≤ k) : stage N k F = ofWords N F := by
  unfold stage ofWords
  congr 1
  apply List.map_congr_left
  intro j hj
  have := List.mem_range.1 hj
  simp [show j < k by omega]
def SetV.upd (S : SetV) (k x : Nat) : SetV := ⟨S.N, S.ws.set k x⟩
theorem SetV.upd_w (S : SetV) (k x j : Nat) (hk : k < S.ws.length) : (S.upd k x).w j = if j = k then x else S.w j := by
  unfold SetV.upd SetV.w
  simp only [List.getD_eq_getElem?_getD, List.getElem?_set]
  by_cases h : k = j
  · subst h; simp [hk]
  · simp [h, Ne.symm h]
theorem stage_upd {N k : Nat} (F : Nat → Nat) (hk : k < (N + 63) / 64) : (stage N k F).upd k (F k) = stage N (k + 1) F := by
  unfold SetV.upd stage ofWords
  congr 1
  apply List.ext_getElem
  · simp
  · intro i h1 h2
    simp at h1
    simp only [List.getElem_set, List.getElem_map, List.getElem_range]
    by_cases hi : k = i
    · subst hi; simp
    · simp only [hi, if_false]
      by_cases h3 : i < k
      · simp [h3, show i < k + 1 by omega]
      · simp [h3, show ¬ i < k + 1 by omega]
theorem SetAt.upd {w : World} {p bw : Nat} {S : SetV} (h : SetAt w p bw S) (k x : Nat) (hok : (S.upd k x).Ok) : SetAt (w.setCell ⟨bw, k, none⟩ (.int .u64 (x : Int))) p bw (S.upd k x) := by
  refine ⟨?_, ?_, hok, h.ne⟩
  · have := h.hdr.set_other (a := ⟨bw, k, none⟩) (.int .u64 (x : Int)) (Ne.symm h.ne)
    simpa [SetV.upd] using this
  · have := h.wrd.set k (.int .u64 (x : Int))
    rw [wcells_set] at this
    exact this
theorem SetAt.drew {w : World} {p bw : Nat} {S : SetV} (h : SetAt w p bw S) : SetAt w.drew p bw S := ⟨h.hdr, h.wrd, h.ok, h.ne⟩
theorem RefAt.drew {w : World} {q : Option Addr} {S : SetV} {f : List Nat} (h : RefAt w q S f) : RefAt w.drew q S f := h.ext0 (Ext.refl [] w).drew

/-! ### blank, New -/
theorem blank_ok {N : Nat} (h : N ≤ 65536) : (⟨N, List.replicate ((N + 63) / 64) 0⟩ : SetV).Ok := by
  rw [← stage_zero N (fun _ => 0)]
  exact stage_ok (ofWords_ok h (fun _ => by omega) (fun i _ => by simp))
theorem blank_c (n : Nat) (hn : n ≤ 65536) {w : World} {R : Ending → World → Prop}
    (k : ∀ p bw w', Ext [] w w' → w.heap.size ≤ p → w.heap.size ≤ bw → SetAt w' p bw ⟨n, List.replicate ((n + 63) / 64) 0⟩ → R (.returned (.pointer (some ⟨p, 0, none⟩))) w') :
    Calls Tryz.prog 54 #[.int .i64 (n : Int)] w R := by
  apply bitset_blank_nf
  refine wordCount_c n (by omega) ⟨_, rfl, when_dec ⟨by omega, by omega, by omega, by omega⟩ ?_⟩
  have e : ∀ l : Nat, V.rep (Int.toNat (l : Int)) [Value.int .u64 0] = wcells (List.replicate l 0) := fun l => by
    simp [V.rep, wcells]
  rw [e, Int.toNat_natCast]
  refine k _ _ _ (((Ext.refl _ _).alloc _).alloc _) (by rw [World.size_alloc]; omega) (Nat.le_refl _) ⟨?_, ?_, blank_ok hn, ?_⟩
  · have := Blk.new (w.alloc (.cells ⟨wcells (List.replicate ((n + 63) / 64) 0)⟩ 104)) [.int .i64 (n : Int), .slice (some ⟨w.heap.size, 0, none⟩) ((n + 63) / 64) ((n + 63) / 64)] 107
    simpa using this
  · exact (BlkT.new w _ _).alloc _
  · rw [World.size_alloc]; omega
theorem New_bad {n : Int} (h : n < 0 ∨ 65536 < n) {w : World} {R : Ending → World → Prop} (k : R (.returned (.tuple #[.pointer none, .int .i64 11])) w) :
    Calls Tryz.prog 26 #[.int .i64 n] w R := by
  apply bitset_New_nf
  refine sel_dec (fun _ => k) (fun h0 => sel_dec (fun _ => k) (fun h1 => by omega))
theorem New_ok {n : Nat} (h : n ≤ 65536) {w : World} {R : Ending → World → Prop}
    (k : ∀ p bw w', Ext [] w w' → w.heap.size ≤ p → w.heap.size ≤ bw → SetAt w' p bw ⟨n, List.replicate ((n + 63) / 64) 0⟩ → R (.returned (.tuple #[.pointer (some ⟨p, 0, none⟩), .int .i64 0])) w') :
    Calls Tryz.prog 26 #[.int .i64 (n : Int)] w R := by
  apply bitset_New_nf
  refine sel_dec (fun h0 => by omega) (fun h0 => sel_dec (fun h1 => by omega) (fun h1 => ?_))
  exact blank_c n h fun p bw w' e h1 h2 hs => ⟨_, rfl, k p bw w' e h1 h2 hs⟩

/-! ### two sets held against one another -/
theorem max_nat (a b : Nat) : (if (b : Int) > (a : Int) then (b : Int) else (a : Int)) = ((max a b : Nat) : Int) := by
  split <;> omega
def span (A B : SetV) : Nat := (max A.N B.N + 63) / 64
theorem spanOf_c {w : World} {a b : Option Addr} {A B : SetV} {fa fb : List Nat} (ha : RefAt w a A fa) (hb : RefAt w b B fb) {R : Ending → World → Prop} (k : R (.returned (.int .i64 (span A B : Int))) w) :
    Calls Tryz.prog 59 #[.pointer a, .pointer b] w R := by
  apply bitset_spanOf_nf
  refine Size_c ha ⟨_, rfl, Size_c hb ⟨_, rfl, ?_⟩⟩
  rw [max_nat]
  have := ha.ok.N
  have := hb.ok.N
  exact wordCount_c _ (by omega) ⟨_, rfl, k⟩
theorem w_past {A B : SetV} (ha : A.Ok) (hb : B.Ok) {k : Nat} (hk : span A B ≤ k) : A.w k = 0 ∧ B.w k = 0 := by
  unfold span at hk
  exact ⟨ha.w_out (by omega), hb.w_out (by omega)⟩
theorem words_eq_iff {A B : SetV} (ha : A.Ok) (hb : B.Ok) : (∀ k, k < span A B → A.w k = B.w k) ↔ ∀ i, A.mem i = B.mem i := by
  constructor
  · intro h i
    rw [SetV.mem_w, SetV.mem_w]
    rcases Nat.lt_or_ge (i / 64) (span A B) with hl | hl
    · rw [h _ hl]
    · rw [(w_past ha hb hl).1, (w_past ha hb hl).2]
  · intro h k _
    refine bits_eq (ha.wlt k) (hb.wlt k) fun j hj => ?_
    rw [SetV.w_bit _ _ _ hj, SetV.w_bit _ _ _ hj, h]
theorem andNot_zero_iff {x y : Nat} (hx : x < 18446744073709551616) (hy : y < 18446744073709551616) : andNot x y = 0 ↔ ∀ j, j < 64 → x.testBit j = true → y.testBit j = true := by
  constructor
  · intro h j hj hb
    have := andNot_bit (x := x) hy j hj
    rw [h, hb] at this
    cases hyj : y.testBit j with
    | true => rfl
    | false => rw [hyj] at this; simp at this
  · intro h
    refine bits_eq (andNot_lt hx) (by omega) fun j hj => ?_
    rw [andNot_bit hy j hj]
    cases hb : x.testBit j with
    | false => simp
    | true => simp [h j hj hb]
theorem and_zero_iff {x y : Nat} (hx : x < 18446744073709551616) : x &&& y = 0 ↔ ∀ j, j < 64 → ¬ (x.testBit j = true ∧ y.testBit j = true) := by
  constructor
  · intro h j hj hb
    have := Nat.testBit_and x y j
    rw [h, hb.1, hb.2] at this
    simp at this
  · intro h
    refine bits_eq (Nat.lt_of_le_of_lt Nat.and_le_left hx) (by omega) fun j hj => ?_
    rw [Nat.testBit_and]
    have := h j hj
    cases hb : x.testBit j <;> cases hc : y.testBit j <;> simp_all
theorem sub_iff {A B : SetV} (ha : A.Ok) (hb : B.Ok) : (∀ k, k < span A B → andNot (A.w k) (B.w k) = 0) ↔ ∀ i, A.mem i = true → B.mem i = true := by
  constructor
  · intro h i hi
    rw [SetV.mem_w] at hi ⊢
    rcases Nat.lt_or_ge (i / 64) (span A B) with hl | hl
    · exact (andNot_zero_iff (ha.wlt _) (hb.wlt _)).1 (h _ hl) _ (by omega) hi
    · rw [(w_past ha hb hl).1] at hi; simp at hi
  · intro h k _
    refine (andNot_zero_iff (ha.wlt _) (hb.wlt _)).2 fun j hj hx => ?_
    rw [SetV.w_bit _ _ _ hj] at hx ⊢
    exact h _ hx
theorem meet_iff {A B : SetV} (ha : A.Ok) (hb : B.Ok) : (∀ k, k < span A B → A.w k &&& B.w k = 0) ↔ ∀ i, ¬ (A.mem i = true ∧ B.mem i = true) := by
  constructor
  · intro h i hi
    rw [SetV.mem_w, SetV.mem_w] at hi
    rcases Nat.lt_or_ge (i / 64) (span A B) with hl | hl
    · exact (and_zero_iff (ha.wlt _)).1 (h _ hl) _ (by omega) hi
    · rw [(w_past ha hb hl).1] at hi; simp at hi
  · intro h k _
    refine (and_zero_iff (ha.wlt _)).2 fun j hj hx => ?_
    rw [SetV.w_bit _ _ _ hj, SetV.w_bit _ _ _ hj] at hx
    exact h _ hx
theorem Equal_c {w : World} {a b : Option Addr} {A B : SetV} {fa fb : List Nat} (ha : RefAt w a A fa) (hb : RefAt w b B fb) {R : Ending → World → Prop}
    (k : ∀ t : Bool, (t = true ↔ ∀ i, A.mem i = B.mem i) → R (.returned (.bool t)) w) :
    Calls Tryz.prog 35 #[.pointer a, .pointer b] w R := by
  apply bitset_Equal_nf
  have oa := ha.ok
  have ob := hb.ok
  have hsp : span A B ≤ 1024 := by have := oa.N; have := ob.N; unfold span; omega
  refine spanOf_c ha hb ⟨_, rfl, fun i w' => w' = w ∧ ∃ n : Nat, i = n ∧ n ≤ span A B ∧ ∀ j, j < n → A.w j = B.w j, fun i _ => span A B - i.toNat, ⟨rfl, 0, rfl, by omega, by omega⟩, ?_⟩
  rintro _ _ _ ⟨rfl, n, rfl, hn, hall⟩
  refine sel_dec (fun hlt => ?_) (fun hge => ?_)
  · refine word_c ha n ⟨_, rfl, word_c hb n ⟨_, rfl, sel_intro (fun hne => ?_) (fun heq => ?_)⟩⟩
    · refine k false ⟨fun h => (by cases h), fun h => ?_⟩
      have := (words_eq_iff oa ob).2 h n (by omega)
      simp only [SetV.w] at this
      rw [this] at hne
      simp at hne
    · have heq : A.w n = B.w n := Int.ofNat_inj.1 (bne_eq_false_iff_eq.1 heq)
      rw [up64 n (by omega)]
      refine ⟨⟨rfl, n + 1, rfl, by omega, fun j hj => ?_⟩, down (by omega)⟩
      by_cases hjn : j = n
      · subst hjn; exact heq
      · exact hall j (by omega)
  · exact k true ⟨fun _ => (words_eq_iff oa ob).1 fun j hj => hall j (by omega), fun _ => rfl⟩
end Go.Proofs.YtpipenkaaodlgaaGreatDoor
