/- How many bits of a word are set, and that the usual way with masks counts them: generic, no program. -/
import Derived.Test.YtpipenkaaodlgaaGreatDoorB
set_option linter.unusedVariables false
set_option linter.unusedSimpArgs false
namespace Go.B
open Go.V

/-- How many of the n lowest bits are set. -/
def pc (n x : Nat) : Nat := (List.range n).countP fun i => x.testBit i
theorem pc_le (n x : Nat) : pc n x ≤ n := by
  have := List.countP_le_length (p := fun i => x.testBit i) (l := List.range n)
  simpa [pc] using this
theorem pc_zero (x : Nat) : pc 0 x = 0 := rfl
theorem pc_congr {n x y : Nat} (h : ∀ i, i < n → x.testBit i = y.testBit i) : pc n x = pc n y := by
  unfold pc
  apply List.countP_congr
  intro i hi
  rw [h i (List.mem_range.1 hi)]
theorem pc_add (a b x : Nat) : pc (a + b) x = pc a x + pc b (x >>> a) := by
  unfold pc
  rw [List.range_add, List.countP_append, List.countP_map]
  congr 1
  apply List.countP_congr
  intro i _
  simp [Nat.testBit_shiftRight]
theorem pc_none {n x : Nat} (h : ∀ i, i < n → x.testBit i = false) : pc n x = 0 := by
  unfold pc
  rw [List.countP_eq_zero]
  intro i hi
  rw [h i (List.mem_range.1 hi)]; simp
theorem pc_byte (n x : Nat) : pc (8 + n) x = pc 8 (x % 256) + pc n (x / 256) := by
  rw [pc_add, Nat.shiftRight_eq_div_pow]
  congr 1
  exact pc_congr fun i hi => by
    rw [show (256 : Nat) = 2 ^ 8 from rfl, Nat.testBit_mod_two_pow]; simp [hi]

theorem bit_split {a : Nat} (y : Nat) (ha : a < 256) (j : Nat) : (a + 256 * y).testBit j = if j < 8 then a.testBit j else y.testBit (j - 8) := by
  have := Nat.testBit_two_pow_mul_add y (b := a) (i := 8) (by omega) j
  rw [show a + 256 * y = 2 ^ 8 * y + a by omega]
  exact this
theorem and_split {a m : Nat} (y M : Nat) (ha : a < 256) (hm : m < 256) : (a + 256 * y) &&& (m + 256 * M) = (a &&& m) + 256 * (y &&& M) := by
  apply Nat.eq_of_testBit_eq
  intro j
  rw [Nat.testBit_and, bit_split y ha, bit_split M hm, bit_split (y &&& M) (Nat.lt_of_le_of_lt Nat.and_le_left ha)]
  split <;> simp [Nat.testBit_and]
theorem shr_split {a m s : Nat} (y M : Nat) (hs : s ≤ 8) (ha : a < 256) (hm : m < 2 ^ (8 - s)) : ((a + 256 * y) >>> s) &&& (m + 256 * M) = ((a >>> s) &&& m) + 256 * ((y >>> s) &&& M) := by
  have hm' : m < 256 := Nat.lt_of_lt_of_le hm (by have := Nat.pow_le_pow_right (show 0 < 2 by omega) (show 8 - s ≤ 8 by omega); simpa using this)
  apply Nat.eq_of_testBit_eq
  intro j
  rw [Nat.testBit_and, Nat.testBit_shiftRight, bit_split y ha, bit_split M hm', bit_split _ (Nat.lt_of_le_of_lt Nat.and_le_right hm')]
  by_cases hj : j < 8
  · rw [if_pos hj, if_pos hj, Nat.testBit_and, Nat.testBit_shiftRight]
    by_cases h2 : s + j < 8
    · rw [if_pos h2]
    · have : m.testBit j = false := Nat.testBit_lt_two_pow (Nat.lt_of_lt_of_le hm (Nat.pow_le_pow_right (by omega) (by omega)))
      simp [this]
  · rw [if_neg hj, if_neg hj, if_neg (by omega), Nat.testBit_and, Nat.testBit_shiftRight, show s + j - 8 = s + (j - 8) by omega]
/-- The byte m, n times. -/
def mk (m : Nat) : Nat → Nat
  | 0 => 0
  | n + 1 => m + 256 * mk m n
def s1 (n x : Nat) : Nat := ((x >>> 1) &&& mk 85 n) + (x &&& mk 85 n)
def s2 (n x : Nat) : Nat := ((x >>> 2) &&& mk 51 n) + (x &&& mk 51 n)
def s3 (n x : Nat) : Nat := ((x >>> 4) + x) &&& mk 15 n
theorem split (x : Nat) : x = x % 256 + 256 * (x / 256) := by omega
theorem s1_split (n : Nat) {a : Nat} (y : Nat) (ha : a < 256) : s1 (n + 1) (a + 256 * y) = s1 1 a + 256 * s1 n y := by
  have e1 := shr_split (m := 85) (s := 1) y (mk 85 n) (by omega) ha (by omega)
  have e2 := and_split (m := 85) y (mk 85 n) ha (by omega)
  simp only [s1, mk, e1, e2, Nat.mul_zero, Nat.add_zero]
  omega
theorem s2_split (n : Nat) {a : Nat} (y : Nat) (ha : a < 256) : s2 (n + 1) (a + 256 * y) = s2 1 a + 256 * s2 n y := by
  have e1 := shr_split (m := 51) (s := 2) y (mk 51 n) (by omega) ha (by omega)
  have e2 := and_split (m := 51) y (mk 51 n) ha (by omega)
  simp only [s2, mk, e1, e2, Nat.mul_zero, Nat.add_zero]
  omega
theorem s3_split (n : Nat) {a : Nat} (y : Nat) (h1 : a % 16 ≤ 4) (h2 : a / 16 ≤ 4) (h3 : y % 16 ≤ 4) : s3 (n + 1) (a + 256 * y) = s3 1 a + 256 * s3 n y := by
  have e : ((a + 256 * y) >>> 4) + (a + 256 * y) = (a / 16 + a + 16 * (y % 16)) + 256 * ((y >>> 4) + y) := by
    simp only [Nat.shiftRight_eq_div_pow]; omega
  have e2 := and_split (a := a / 16 + a + 16 * (y % 16)) (m := 15) ((y >>> 4) + y) (mk 15 n) (by omega) (by omega)
  unfold s3
  rw [e]
  simp only [mk, Nat.mul_zero, Nat.add_zero, e2]
  congr 1
  have k : ∀ z : Nat, z &&& 15 = z % 16 := fun z => Nat.and_two_pow_sub_one_eq_mod z 4
  rw [k, k, Nat.shiftRight_eq_div_pow]
  omega
theorem byte_facts : ∀ a : Fin 256, s1 1 a.1 < 256 ∧ s2 1 (s1 1 a.1) % 16 ≤ 4 ∧ s2 1 (s1 1 a.1) / 16 ≤ 4 ∧ s3 1 (s2 1 (s1 1 a.1)) = pc 8 a.1 := by decide +kernel
theorem s2s1 (n x : Nat) : s2 (n + 1) (s1 (n + 1) x) = s2 1 (s1 1 (x % 256)) + 256 * s2 n (s1 n (x / 256)) := by
  have hb := byte_facts ⟨x % 256, by omega⟩
  have e1 := s1_split n (a := x % 256) (x / 256) (by omega)
  rw [← split x] at e1
  rw [e1, s2_split n _ hb.1]
theorem s2_low (n x : Nat) : s2 n (s1 n x) % 16 ≤ 4 := by
  cases n with
  | zero => simp [s2, s1, mk]
  | succ n =>
    rw [s2s1]
    have hb := byte_facts ⟨x % 256, by omega⟩
    have := hb.2.1
    simp only at this
    omega
theorem s_step (n x : Nat) : s3 (n + 1) (s2 (n + 1) (s1 (n + 1) x)) = pc 8 (x % 256) + 256 * s3 n (s2 n (s1 n (x / 256))) := by
  have hb := byte_facts ⟨x % 256, by omega⟩
  rw [s2s1, s3_split n _ hb.2.1 hb.2.2.1 (s2_low _ _), hb.2.2.2]
theorem s_zero (x : Nat) : s3 0 x = 0 := by simp [s3, mk]
theorem swar {x : Nat} (hx : x < 18446744073709551616) (x4 x5 x6 x7 : Nat) (h4 : x4 = s3 8 (s2 8 (s1 8 x))) (h5 : x5 = x4 + x4 / 256) (h6 : x6 = x5 + x5 / 65536) (h7 : x7 = x6 + x6 / 4294967296) :
    x7 < 9223372036854775808 ∧ x7 % 128 = pc 64 x := by
  rw [s_step, s_step, s_step, s_step, s_step, s_step, s_step, s_step, s_zero] at h4
  have e : pc 64 x = pc (8 + (8 + (8 + (8 + (8 + (8 + (8 + (8 + 0)))))))) x := rfl
  rw [pc_byte, pc_byte, pc_byte, pc_byte, pc_byte, pc_byte, pc_byte, pc_byte, pc_zero] at e
  rw [e]
  generalize hc0 : pc 8 (x % 256) = c0 at *
  generalize hc1 : pc 8 (x / 256 % 256) = c1 at *
  generalize hc2 : pc 8 (x / 256 / 256 % 256) = c2 at *
  generalize hc3 : pc 8 (x / 256 / 256 / 256 % 256) = c3 at *
  generalize hc4 : pc 8 (x / 256 / 256 / 256 / 256 % 256) = c4 at *
  generalize hc5 : pc 8 (x / 256 / 256 / 256 / 256 / 256 % 256) = c5 at *
  generalize hc6 : pc 8 (x / 256 / 256 / 256 / 256 / 256 / 256 % 256) = c6 at *
  generalize hc7 : pc 8 (x / 256 / 256 / 256 / 256 / 256 / 256 / 256 % 256) = c7 at *
  have b0 : c0 ≤ 8 := by rw [← hc0]; exact pc_le _ _
  have b1 : c1 ≤ 8 := by rw [← hc1]; exact pc_le _ _
  have b2 : c2 ≤ 8 := by rw [← hc2]; exact pc_le _ _
  have b3 : c3 ≤ 8 := by rw [← hc3]; exact pc_le _ _
  have b4 : c4 ≤ 8 := by rw [← hc4]; exact pc_le _ _
  have b5 : c5 ≤ 8 := by rw [← hc5]; exact pc_le _ _
  have b6 : c6 ≤ 8 := by rw [← hc6]; exact pc_le _ _
  have b7 : c7 ≤ 8 := by rw [← hc7]; exact pc_le _ _
  clear hc0 hc1 hc2 hc3 hc4 hc5 hc6 hc7 e hx
  have q5 : x5 = (c0 + c1) + 256 * (c1 + c2) + 65536 * (c2 + c3) + 16777216 * (c3 + c4) + 4294967296 * (c4 + c5) + 1099511627776 * (c5 + c6) + 281474976710656 * (c6 + c7) + 72057594037927936 * c7 := by omega
  have q6 : x6 = (c0 + c1 + c2 + c3) + 256 * (c1 + c2 + c3 + c4) + 65536 * (c2 + c3 + c4 + c5) + 16777216 * (c3 + c4 + c5 + c6) + 4294967296 * (c4 + c5 + c6 + c7) + 1099511627776 * (c5 + c6 + c7) + 281474976710656 * (c6 + c7) + 72057594037927936 * c7 := by omega
  clear h4 h5 h6 q5
  have q : x6 / 4294967296 = (c4 + c5 + c6 + c7) + 256 * (c5 + c6 + c7) + 65536 * (c6 + c7) + 16777216 * c7 := by omega
  have q7 : x7 = (c0 + c1 + c2 + c3 + c4 + c5 + c6 + c7) + 128 * (2 * ((c1 + c2 + c3 + c4) + (c5 + c6 + c7)) + 512 * ((c2 + c3 + c4 + c5) + (c6 + c7)) + 131072 * ((c3 + c4 + c5 + c6) + c7) + 33554432 * (c4 + c5 + c6 + c7) + 8589934592 * (c5 + c6 + c7) + 2199023255552 * (c6 + c7) + 562949953421312 * c7) := by omega
  clear q q6 h7
  exact ⟨by omega, by rw [q7, Nat.add_mul_mod_self_left, Nat.mod_eq_of_lt (by omega)]; omega⟩
theorem and_le_mask (x m : Nat) : x &&& m ≤ m := Nat.and_le_right
end Go.B
