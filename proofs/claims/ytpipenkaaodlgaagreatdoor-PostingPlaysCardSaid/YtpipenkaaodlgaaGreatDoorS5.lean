/- Sets: counting, ranks, the list of the members, sets made of lists, greater universes. -/
import Derived.Test.YtpipenkaaodlgaaGreatDoorS4
import Derived.Test.YtpipenkaaodlgaaGreatDoorPop
set_option linter.unusedVariables false
set_option linter.unusedSimpArgs false
namespace Go.Proofs.YtpipenkaaodlgaaGreatDoor
open Go Go.V Go.B

theorem OnesCount64_c {x : Nat} (hx : x < 18446744073709551616) {w : World} {R : Ending → World → Prop} (k : R (.returned (.int .i64 ((pc 64 x : Nat) : Int))) w) :
    Calls Tryz.prog 95 #[.int .u64 (x : Int)] w R := by
  apply math_bits_OnesCount64_nf
  have sh : ∀ (y s : Nat), Int.fdiv (y : Int) (2 ^ s) = ((y >>> s : Nat) : Int) := fun y s => by
    have e2 : ((2 : Int) ^ s) = ((2 ^ s : Nat) : Int) := by norm_cast
    rw [e2, Nat.shiftRight_eq_div_pow, Int.fdiv_eq_ediv_of_nonneg _ (Int.natCast_nonneg _)]
    rfl
  have m1 : mk 85 8 = 6148914691236517205 := by decide +kernel
  have m2 : mk 51 8 = 3689348814741910323 := by decide +kernel
  have m3 : mk 15 8 = 1085102592571150095 := by decide +kernel
  have a1 : ∀ y : Nat, y < 18446744073709551616 → IntKind.wrap .u64 ((BitVec.toNat (BitVec.ofInt 64 (y : Int) &&& BitVec.ofInt 64 6148914691236517205) : Nat) : Int) = ((y &&& mk 85 8 : Nat) : Int) := fun y hy => by
    rw [m1]; exact and64 (y := 6148914691236517205) hy (by omega)
  have a2 : ∀ y : Nat, y < 18446744073709551616 → IntKind.wrap .u64 ((BitVec.toNat (BitVec.ofInt 64 (y : Int) &&& BitVec.ofInt 64 3689348814741910323) : Nat) : Int) = ((y &&& mk 51 8 : Nat) : Int) := fun y hy => by
    rw [m2]; exact and64 (y := 3689348814741910323) hy (by omega)
  have a3 : ∀ y : Nat, y < 18446744073709551616 → IntKind.wrap .u64 ((BitVec.toNat (BitVec.ofInt 64 (y : Int) &&& BitVec.ofInt 64 1085102592571150095) : Nat) : Int) = ((y &&& mk 15 8 : Nat) : Int) := fun y hy => by
    rw [m3]; exact and64 (y := 1085102592571150095) hy (by omega)
  have sl : ∀ y s : Nat, y < 18446744073709551616 → y >>> s < 18446744073709551616 := fun y s h => Nat.lt_of_le_of_lt (Nat.shiftRight_le _ _) h
  have ad : ∀ y z : Nat, y + z < 18446744073709551616 → IntKind.wrap .u64 ((y : Int) + (z : Int)) = ((y + z : Nat) : Int) := fun y z h => by
    rw [u64 (by omega) (by omega)]; omega
  have l1 : ∀ y z : Nat, (y &&& mk 85 8) + (z &&& mk 85 8) < 18446744073709551616 := fun y z => by
    have := and_le_mask y (mk 85 8); have := and_le_mask z (mk 85 8); rw [m1] at *; omega
  have l2 : ∀ y z : Nat, (y &&& mk 51 8) + (z &&& mk 51 8) ≤ 7378697629483820646 := fun y z => by
    have := and_le_mask y (mk 51 8); have := and_le_mask z (mk 51 8); rw [m2] at *; omega
  have l3 : ∀ y : Nat, y &&& mk 15 8 ≤ 1085102592571150095 := fun y => by
    have := and_le_mask y (mk 15 8); rw [m3] at *; omega
  have b1 : s1 8 x < 18446744073709551616 := l1 _ _
  have b2 : s2 8 (s1 8 x) ≤ 7378697629483820646 := l2 _ _
  have b3 : s3 8 (s2 8 (s1 8 x)) ≤ 1085102592571150095 := l3 _
  refine lt_eq (y := ((s1 8 x : Nat) : Int)) ?_ (lt_eq (y := ((s2 8 (s1 8 x) : Nat) : Int)) ?_ (lt_eq (y := ((s3 8 (s2 8 (s1 8 x)) : Nat) : Int)) ?_ ?_))
  · rw [sh x 1, a1 _ (sl x 1 hx), a1 _ hx, ad _ _ (l1 _ _)]; rfl
  · rw [sh _ 2, a2 _ (sl _ 2 b1), a2 _ b1, ad _ _ (by have := l2 (s1 8 x >>> 2) (s1 8 x); omega)]; rfl
  · have := Nat.shiftRight_le (s2 8 (s1 8 x)) 4
    rw [sh _ 4, ad _ _ (by omega), a3 _ (by omega)]; rfl
  generalize h4 : s3 8 (s2 8 (s1 8 x)) = x4 at *
  have h8 : x4 >>> 8 = x4 / 256 := by rw [Nat.shiftRight_eq_div_pow]
  refine lt_eq (y := ((x4 + x4 / 256 : Nat) : Int)) ?_ ?_
  · rw [sh _ 8, ad _ _ (by omega), h8]
  generalize h5 : x4 + x4 / 256 = x5 at *
  have h16 : x5 >>> 16 = x5 / 65536 := by rw [Nat.shiftRight_eq_div_pow]
  refine lt_eq (y := ((x5 + x5 / 65536 : Nat) : Int)) ?_ ?_
  · rw [sh _ 16, ad _ _ (by omega), h16]
  generalize h6 : x5 + x5 / 65536 = x6 at *
  have h32 : x6 >>> 32 = x6 / 4294967296 := by rw [Nat.shiftRight_eq_div_pow]
  refine lt_eq (y := ((x6 + x6 / 4294967296 : Nat) : Int)) ?_ ?_
  · rw [sh _ 32, ad _ _ (by omega), h32]
  generalize h7 : x6 + x6 / 4294967296 = x7 at *
  have fin := swar hx x4 x5 x6 x7 h4.symm h5.symm h6.symm h7.symm
  refine lt_eq (y := ((pc 64 x : Nat) : Int)) ?_ k
  have hp := pc_le 64 x
  rw [w64 (x := (x7 : Int)) (by omega) (by omega), bv_nat, show BitVec.ofInt 64 127 = BitVec.ofNat 64 127 from rfl, BitVec.toNat_and, BitVec.toNat_ofNat, BitVec.toNat_ofNat, Nat.mod_eq_of_lt (show x7 < 2 ^ 64 by omega), show 127 % 2 ^ 64 = 2 ^ 7 - 1 from rfl, Nat.and_two_pow_sub_one_eq_mod, fin.2]
  exact w64 (by omega) (by omega)

/-! ### Rank, Count -/
/-- How many members are below i. -/
def SetV.rank (S : SetV) (i : Nat) : Nat := (List.range i).countP S.mem
theorem rank_le (S : SetV) (i : Nat) : S.rank i ≤ i := by
  have := List.countP_le_length (p := S.mem) (l := List.range i)
  simpa [SetV.rank] using this
theorem rank_succ (S : SetV) (i : Nat) : S.rank (i + 1) = S.rank i + (if S.mem i then 1 else 0) := by
  unfold SetV.rank
  rw [List.range_succ, List.countP_append]
  simp [List.countP_cons]
theorem rank_part (S : SetV) (n r : Nat) (hr : r ≤ 64) : S.rank (64 * n + r) = S.rank (64 * n) + pc r (S.w n) := by
  unfold SetV.rank pc
  rw [List.range_add, List.countP_append, List.countP_map]
  congr 1
  apply List.countP_congr
  intro i hi
  have := List.mem_range.1 hi
  rw [S.w_bit n i (by omega)]
  rfl
theorem rank_full {S : SetV} (h : S.Ok) {i : Nat} (hi : S.N ≤ i) : S.rank i = S.rank S.N := by
  obtain ⟨d, rfl⟩ : ∃ d, i = S.N + d := ⟨i - S.N, by omega⟩
  unfold SetV.rank
  rw [List.range_add, List.countP_append]
  have : List.countP S.mem (List.map (fun x => S.N + x) (List.range d)) = 0 := by
    rw [List.countP_eq_zero]
    intro x hx
    obtain ⟨y, _, rfl⟩ := List.mem_map.1 hx
    rw [h.tail _ (by omega)]; simp
  omega
theorem pc_shl (x r : Nat) (h0 : 0 < r) (hr : r < 64) : pc 64 (x * 2 ^ (64 - r) % 18446744073709551616) = pc r x := by
  rw [show (64 : Nat) = (64 - r) + r by omega, pc_add, show (64 - r) + r - r = 64 - r by omega]
  have b : ∀ j, (x * 2 ^ (64 - r) % 18446744073709551616).testBit j = (decide (j < 64) && (decide (64 - r ≤ j) && x.testBit (j - (64 - r)))) := fun j => by
    rw [show (18446744073709551616 : Nat) = 2 ^ 64 from rfl, Nat.testBit_mod_two_pow, Nat.testBit_mul_two_pow]
  rw [pc_none (fun i hi => by rw [b]; simp; omega), Nat.zero_add]
  refine pc_congr fun i hi => ?_
  rw [Nat.testBit_shiftRight, b]
  simp [show 64 - r + i < 64 by omega]
theorem Rank_c {w : World} {q : Option Addr} {S : SetV} {f : List Nat} (h : RefAt w q S f) (i : Int) {R : Ending → World → Prop} (k : R (.returned (.int .i64 ((S.rank i.toNat : Nat) : Int))) w) :
    Calls Tryz.prog 65 #[.pointer q, .int .i64 i] w R := by
  apply bitset_Set_Rank_nf
  have o := h.ok
  have hN := o.N
  have hl := o.len
  refine Size_c h ⟨_, rfl, ?_⟩
  generalize hm : (if ((S.N : Nat) : Int) < i then ((S.N : Nat) : Int) else i) = m
  refine sel_dec (fun h0 => ?_) (fun h0 => ?_)
  · have : S.rank i.toNat = 0 := by
      by_cases hi : i ≤ 0
      · rw [show i.toNat = 0 by omega]; rfl
      · have hz : S.N = 0 := by split at hm <;> omega
        rw [rank_full o (by omega), hz]; rfl
    rw [this] at k; exact k
  obtain ⟨n, rfl⟩ : ∃ n : Nat, m = n := ⟨m.toNat, by omega⟩
  have hn : n ≤ S.N := by split at hm <;> omega
  have hr : S.rank i.toNat = S.rank n := by
    split at hm
    · rw [rank_full o (by omega)]; congr 1; omega
    · congr 1; omega
  rw [hr] at k
  rcases h with ⟨rfl, rfl, rfl⟩ | ⟨p, bw, rfl, hs, rfl⟩
  · simp [SetV.nil] at hn; omega
  have e1 : IntKind.wrap .i64 (Int.tdiv (n : Int) 64) = ((n / 64 : Nat) : Int) := by rw [tdiv64, w64 (by omega) (by omega)]
  rw [e1, tmod64]
  refine ⟨fun a t w' => w' = w ∧ ∃ j : Nat, t = j ∧ j ≤ n / 64 ∧ a = ((S.rank (64 * j) : Nat) : Int), fun _ t _ => n / 64 - t.toNat, ⟨rfl, 0, rfl, by omega, rfl⟩, ?_⟩
  rintro _ _ _ _ ⟨rfl, j, rfl, hj, rfl⟩
  refine sel_dec (fun hlt => ?_) (fun hge => ?_)
  · refine ptr_in ⟨_, _, _, hs.words, when_dec ⟨by omega, by omega⟩ (ptr_in ⟨((S.w j : Nat) : Int), ?_, ?_⟩)⟩
    · simp only [Int.toNat_natCast, Nat.mul_one]; exact hs.word (by omega)
    refine OnesCount64_c (o.wlt j) ⟨_, rfl, ?_⟩
    have hb := rank_le S (64 * j)
    have hp := pc_le 64 (S.w j)
    have e2 : IntKind.wrap .i64 (((S.rank (64 * j) : Nat) : Int) + ((pc 64 (S.w j) : Nat) : Int)) = ((S.rank (64 * (j + 1)) : Nat) : Int) := by
      rw [show 64 * (j + 1) = 64 * j + 64 by omega, rank_part S j 64 (by omega), w64 (by omega) (by omega)]; omega
    rw [e2, up64 j (by omega)]
    exact ⟨⟨rfl, j + 1, rfl, by omega, rfl⟩, down (by omega)⟩
  · obtain rfl : j = n / 64 := by omega
    refine sel_intro (fun hne => ?_) (fun heq => ?_)
    · have hne : n % 64 ≠ 0 := fun h' => by rw [h'] at hne; simp at hne
      refine ptr_in ⟨_, _, _, hs.words, when_dec ⟨by omega, by omega⟩ (ptr_in ⟨((S.w (n / 64) : Nat) : Int), ?_, ?_⟩)⟩
      · simp only [Int.toNat_natCast, Nat.mul_one]; exact hs.word (by omega)
      have e3 : IntKind.wrap .i64 (64 - ((n % 64 : Nat) : Int)) = ((64 - n % 64 : Nat) : Int) := by rw [w64 (by omega) (by omega)]; omega
      rw [e3]
      refine when_dec (by omega) ?_
      have e4 : IntKind.wrap .u64 (((S.w (n / 64) : Nat) : Int) * 2 ^ (min (Int.toNat ((64 - n % 64 : Nat) : Int)) 64)) = ((S.w (n / 64) * 2 ^ (64 - n % 64) % 18446744073709551616 : Nat) : Int) := by
        rw [Int.toNat_natCast, show min (64 - n % 64) 64 = 64 - n % 64 by omega]
        have e5 : ((S.w (n / 64) : Nat) : Int) * 2 ^ (64 - n % 64) = ((S.w (n / 64) * 2 ^ (64 - n % 64) : Nat) : Int) := by norm_cast
        rw [e5]
        generalize S.w (n / 64) * 2 ^ (64 - n % 64) = y
        unfold IntKind.wrap
        simp only [IntKind.bits, IntKind.signed, Bool.false_and, Bool.false_eq_true, if_false]
        omega
      rw [e4]
      refine OnesCount64_c (by omega) ⟨_, rfl, ?_⟩
      rw [pc_shl _ _ (by omega) (by omega)]
      have hb := rank_le S (64 * (n / 64))
      have hp := pc_le (n % 64) (S.w (n / 64))
      have e6 := rank_part S (n / 64) (n % 64) (by omega)
      rw [show 64 * (n / 64) + n % 64 = n by omega] at e6
      rw [w64 (by omega) (by omega)]
      rw [e6] at k
      have e7 : (((S.rank (64 * (n / 64)) : Nat) : Int) + ((pc (n % 64) (S.w (n / 64)) : Nat) : Int)) = ((S.rank (64 * (n / 64)) + pc (n % 64) (S.w (n / 64)) : Nat) : Int) := by omega
      rw [e7]; exact k
    · have hz : n % 64 = 0 := Int.ofNat_inj.1 (bne_eq_false_iff_eq.1 heq)
      rw [show 64 * (n / 64) = n by omega]
      exact k
def SetV.count (S : SetV) : Nat := S.rank S.N
theorem Count_c {w : World} {q : Option Addr} {S : SetV} {f : List Nat} (h : RefAt w q S f) {R : Ending → World → Prop} (k : R (.returned (.int .i64 ((S.count : Nat) : Int))) w) :
    Calls Tryz.prog 46 #[.pointer q] w R := by
  apply bitset_Set_Count_nf
  refine Size_c h ⟨_, rfl, Rank_c h _ ⟨_, rfl, ?_⟩⟩
  exact k
theorem count_le {S : SetV} (h : S.Ok) : S.count ≤ 65536 := Nat.le_trans (rank_le S S.N) h.N

/-! ### Members -/
def SetV.members (S : SetV) : List Nat := (List.range S.N).filter S.mem
def SetV.mi (S : SetV) : List Int := S.members.map Int.ofNat
theorem members_length (S : SetV) : S.members.length = S.count := by
  unfold SetV.members SetV.count SetV.rank
  rw [List.countP_eq_length_filter]
theorem mi_length (S : SetV) : S.mi.length = S.count := by rw [SetV.mi, List.length_map, members_length]
theorem mem_members {S : SetV} (h : S.Ok) (i : Nat) : i ∈ S.members ↔ S.mem i = true := by
  unfold SetV.members
  rw [List.mem_filter, List.mem_range]
  exact ⟨fun h => h.2, fun hm => ⟨h.mem_lt hm, hm⟩⟩
theorem Members_c {w : World} {q : Option Addr} {S : SetV} {f : List Nat} (h : RefAt w q S f) {R : Ending → World → Prop}
    (k : ∀ A c w', Ext [] w w' → w'.ownsRow w.heap.size 3 1 (.slice A S.count c) S.count (ints .i64 S.mi) → R (.returned (.slice A S.count c)) w') :
    Calls Tryz.prog 43 #[.pointer q] w R := by
  apply bitset_Set_Members_nf
  have o := h.ok
  have hN := o.N
  have hc := count_le o
  refine Count_c h ⟨_, rfl, when_dec ⟨by omega, by omega, by omega, by omega⟩ ?_⟩
  rw [Int.toNat_natCast]
  have e0 : Ext [] w (w.alloc (.cells ⟨V.rep S.count [.int .i64 0]⟩ 3)) := (Ext.refl _ _).alloc _
  refine Size_c (h.ext0 e0) ⟨_, rfl, ?_⟩
  refine ⟨fun A l c i w' => ∃ n : Nat, i = n ∧ n ≤ S.N ∧ Ext [] w w' ∧ l = S.rank n ∧ w'.ownsRow w.heap.size 3 1 (.slice A l c) l (ints .i64 (((List.range n).filter S.mem).map Int.ofNat)), fun _ _ _ i _ => S.N - i.toNat,
    ⟨0, rfl, by omega, e0, rfl, ?_⟩, ?_⟩
  · have hh : (w.alloc (.cells ⟨V.rep S.count [.int .i64 0]⟩ 3)).heap[w.heap.size]? = some (.cells ⟨V.rep S.count [.int .i64 0]⟩ 3 (0, 0)) := by
      show (w.heap.push _)[w.heap.size]? = _; simp
    have := own_made hh (c := S.count) (n := 0) (by simp [V.rep]) (by omega) (by omega) (Nat.le_refl _)
    simpa [ints] using this
  rintro A l c _ _ w1 ⟨n, rfl, hn, e1, rfl, own⟩
  refine sel_dec (fun hlt => ?_) (fun hge => ?_)
  · refine Has_c (h.ext0 e1) n ⟨_, rfl, ?_⟩
    rw [SetV.has_nat, up64 n (by omega)]
    have hr := rank_le S n
    have hrs := rank_succ S n
    refine sel_intro (fun hm => ?_) (fun hm => ?_)
    · obtain ⟨A', c', w', hrun, own', e'⟩ := app1 (P := Tryz.prog) (t := 66) (ty := 66) (e := 3) (bytes := 8) (z := .int .i64 0) (by kernel_rfl) (by kernel_rfl) rfl own (x := .int .i64 (n : Int)) rfl e1.size (by omega) (by omega)
      have hlen : S.rank (n + 1) = S.rank n + 1 := by rw [hrs, hm]; rfl
      refine ⟨_, _, _, _, hrun, ⟨n + 1, rfl, by omega, ?_, hlen.symm, ?_⟩, down (by omega)⟩
      · exact e1.trans' e' fun x hx => .inr ((own_base own x hx).1)
      · rw [List.range_succ, List.filter_append, List.map_append]
        simp only [List.filter_cons, hm, if_true, List.filter_nil, List.map_cons, List.map_nil]
        exact own_snoc own'
    · refine ⟨⟨n + 1, rfl, by omega, e1, by rw [hrs, hm]; rfl, ?_⟩, down (by omega)⟩
      rw [List.range_succ, List.filter_append]
      simpa [hm] using own
  · obtain rfl : n = S.N := by omega
    exact k A c w1 e1 own
end Go.Proofs.YtpipenkaaodlgaaGreatDoor
