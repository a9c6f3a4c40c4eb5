/- The lowest and the highest bit of a word: generic, no program. -/
import Derived.Test.YtbaglnffgbnekaaDoorPop
set_option linter.unusedVariables false
set_option linter.unusedSimpArgs false
namespace Go.B
open Go.V

/-- k is the lowest bit of x. -/
def Low (x k : Nat) : Prop := x.testBit k = true ∧ ∀ j, j < k → x.testBit j = false
/-- k is the highest bit of x. -/
def High (x k : Nat) : Prop := x.testBit k = true ∧ ∀ j, k < j → x.testBit j = false
theorem low_exists : ∀ (n x : Nat), x ≠ 0 → x < 2 ^ n → ∃ k, k < n ∧ Low x k
  | 0, x, h0, hx => by simp at hx; omega
  | n + 1, x, h0, hx => by
    rcases Nat.mod_two_eq_zero_or_one x with h | h
    · have hp : 2 ^ (n + 1) = 2 * 2 ^ n := by rw [Nat.pow_succ]; omega
      obtain ⟨k, hk, h1, h2⟩ := low_exists n (x / 2) (by omega) (by omega)
      refine ⟨k + 1, by omega, ?_, fun j hj => ?_⟩
      · rw [Nat.testBit_succ]; exact h1
      · cases j with
        | zero => rw [Nat.testBit_zero]; simp [h]
        | succ j => rw [Nat.testBit_succ]; exact h2 j (by omega)
    · exact ⟨0, by omega, by rw [Nat.testBit_zero]; simp [h], fun j hj => by omega⟩
theorem low_form {x k : Nat} (h : Low x k) : x = 2 ^ (k + 1) * (x / 2 ^ (k + 1)) + 2 ^ k := by
  have e : x % 2 ^ (k + 1) = 2 ^ k := by
    apply Nat.eq_of_testBit_eq
    intro j
    rw [Nat.testBit_mod_two_pow, Nat.testBit_two_pow]
    rcases Nat.lt_trichotomy j k with hj | hj | hj
    · rw [h.2 j hj]; simp; omega
    · subst hj; rw [h.1]; simp
    · simp [show ¬ j < k + 1 by omega]; omega
  have := Nat.div_add_mod x (2 ^ (k + 1))
  omega
theorem low_and {x k : Nat} (h : Low x k) (hk : k < 64) (hx : x < 18446744073709551616) : x &&& (18446744073709551616 - x) = 2 ^ k := by
  have hf := low_form h
  have hp : 0 < 2 ^ k := Nat.two_pow_pos k
  have hp1 : 2 ^ (k + 1) = 2 * 2 ^ k := by rw [Nat.pow_succ]; omega
  have e : x - 1 = 2 ^ (k + 1) * (x / 2 ^ (k + 1)) + (2 ^ k - 1) := by omega
  have e2 : 18446744073709551616 - x = 2 ^ 64 - ((x - 1) + 1) := by omega
  apply Nat.eq_of_testBit_eq
  intro j
  rw [Nat.testBit_and, e2, Nat.testBit_two_pow_sub_succ (by omega), Nat.testBit_two_pow]
  rcases Nat.lt_trichotomy j k with hj | hj | hj
  · rw [h.2 j hj]; simp; omega
  · subst hj
    rw [h.1, e, Nat.testBit_two_pow_mul_add _ (by omega), if_pos (by omega), Nat.testBit_two_pow_sub_one]
    simp [hk]
  · have e3 : x.testBit j = (x - 1).testBit j := by
      conv => lhs; rw [hf]
      rw [e, Nat.testBit_two_pow_mul_add _ (by omega), Nat.testBit_two_pow_mul_add _ (by omega), if_neg (by omega), if_neg (by omega)]
    rw [e3]
    cases (x - 1).testBit j <;> simp <;> omega
theorem high_exists : ∀ (n x : Nat), x ≠ 0 → x < 2 ^ n → ∃ k, k < n ∧ High x k
  | 0, x, h0, hx => by simp at hx; omega
  | n + 1, x, h0, hx => by
    have hp : 2 ^ (n + 1) = 2 * 2 ^ n := by rw [Nat.pow_succ]; omega
    by_cases h : x / 2 = 0
    · refine ⟨0, by omega, by rw [Nat.testBit_zero]; simp; omega, fun j hj => ?_⟩
      cases j with
      | zero => omega
      | succ j => rw [Nat.testBit_succ, h]; simp
    · obtain ⟨k, hk, h1, h2⟩ := high_exists n (x / 2) h (by omega)
      refine ⟨k + 1, by omega, by rw [Nat.testBit_succ]; exact h1, fun j hj => ?_⟩
      cases j with
      | zero => omega
      | succ j => rw [Nat.testBit_succ]; exact h2 j (by omega)
theorem high_bounds {x k : Nat} (h : High x k) : 2 ^ k ≤ x ∧ x < 2 ^ (k + 1) := by
  refine ⟨Nat.le_of_not_lt fun hl => ?_, Nat.lt_pow_two_of_testBit x fun j hj => h.2 j (by omega)⟩
  have := Nat.testBit_lt_two_pow hl
  rw [h.1] at this; cases this
theorem low_unique {x k k' : Nat} (h : Low x k) (h' : Low x k') : k = k' := by
  rcases Nat.lt_trichotomy k k' with hl | hl | hl
  · have := h'.2 k hl; rw [h.1] at this; cases this
  · exact hl
  · have := h.2 k' hl; rw [h'.1] at this; cases this
end Go.B
