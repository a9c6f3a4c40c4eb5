/- Next and Select, and the table by which the library counts trailing zeros. -/
import Derived.Test.YtbaglnffgbnekaaDoorS6
import Derived.Test.YtbaglnffgbnekaaDoorTz
import Derived.Test.YtbaglnffgbnekaaDoorSh
import Derived.Lib.TrailingZeros
set_option linter.unusedVariables false
set_option linter.unusedSimpArgs false
namespace Go.Proofs.YtbaglnffgbnekaaDoor
open Go Go.V Go.B

/-- The library's table stands where it stands. -/
def TzAt (w : World) : Prop := Go.Proofs.TabAt 0 Go.Lib.deBruijn64tab w
theorem TzAt.ext {F : List Nat} {w w' : World} (h : TzAt w) (e : Ext F w w') (hF : 0 ∉ F) : TzAt w' := fun i hi => cell_ext e (h i hi) hF
theorem TzAt.ext0 {w w' : World} (h : TzAt w) (e : Ext [] w w') : TzAt w' := h.ext e (by simp)
theorem TrailingZeros64_c {x k : Nat} (hl : Low x k) (hk : k < 64) (hx : x < 18446744073709551616) {w : World} (ht : TzAt w) {R : Ending → World → Prop} (K : R (.returned (.int .i64 (k : Int))) w) :
    Calls Tryd.prog 40 #[.int .u64 (x : Int)] w R := by
  have hx0 : x ≠ 0 := fun h => by have := hl.1; rw [h] at this; simp at this
  refine Calls.mono (Go.Proofs.Any7.bits_TrailingZeros64 Tryd.lays29 x hx w (fun _ => ht)) ?_
  rintro e w' ⟨rfl, rfl⟩
  have h1 := (Go.Lib.lowest_bit 64 x hx0 hx).1
  have h2 := low_and hl hk hx
  have h3 : (2 : Nat) ^ Go.Lib.ctz 64 x = 2 ^ k := by rw [← h1]; exact h2
  have h4 : Go.Lib.ctz 64 x = k := (Nat.pow_right_inj (by omega)).1 h3
  rw [h4]; exact K
theorem LeadingZeros64_c {x k : Nat} (hh : High x k) (hk : k < 64) (hx : x < 18446744073709551616) {w : World} {R : Ending → World → Prop} (K : R (.returned (.int .i64 (63 - (k : Int)))) w) :
    Calls Tryd.prog 42 #[.int .u64 (x : Int)] w R := by
  refine Calls.mono (Go.Proofs.Any.bits_LeadingZeros64 Tryd.lays134 (x : Int) w (by omega) (by omega)) ?_
  rintro e w' ⟨rfl, rfl⟩
  obtain ⟨h1, h2⟩ := high_bounds hh
  have hb : Go.Lib.bitLen x = k + Go.Lib.bitLen (x / 2 ^ k) := Go.Lib.bitLen_shift k x h1 hx
  have h3 : x / 2 ^ k = 1 := by
    have hp : 0 < 2 ^ k := Nat.pow_pos (by omega)
    have h4 : x < 2 * 2 ^ k := by rw [Nat.pow_succ] at h2; omega
    have h5 : 1 ≤ x / 2 ^ k := (Nat.le_div_iff_mul_le hp).2 (by omega)
    have h6 : x / 2 ^ k < 2 := (Nat.div_lt_iff_lt_mul hp).2 (by omega)
    omega
  have h7 : Go.Lib.bitLen 1 = 1 := by decide
  rw [h3, h7] at hb
  rw [Int.toNat_natCast, hb]
  have : (64 - ((k + 1 : Nat) : Int)) = 63 - (k : Int) := by omega
  rw [this]; exact K

/-! ### Next -/
/-- The lowest member from i on, or -1. -/
def NextV (S : SetV) (i : Int) (r : Int) : Prop := (r = -1 ∧ ∀ j : Nat, i ≤ (j : Int) → S.mem j = false) ∨ ∃ m : Nat, r = (m : Int) ∧ i ≤ (m : Int) ∧ S.mem m = true ∧ ∀ j : Nat, i ≤ (j : Int) → j < m → S.mem j = false
theorem Next_c {w : World} {q : Option Addr} {S : SetV} {f : List Nat} (h : RefAt w q S f) (ht : TzAt w) (i : Int) {R : Ending → World → Prop} (k : ∀ r, NextV S i r → R (.returned (.int .i64 r)) w) :
    Calls Tryd.prog 15 #[.pointer q, .int .i64 i] w R := by
  apply bitset_Set_Next_nf
  have o := h.ok
  have hN := o.N
  have hl := o.len
  refine Size_c h ⟨_, rfl, ?_⟩
  obtain ⟨n, hn⟩ : ∃ n : Nat, (if 0 > i then 0 else i) = (n : Int) := ⟨(if 0 > i then 0 else i).toNat, by split <;> omega⟩
  rw [hn]
  have hni : ∀ j : Nat, i ≤ (j : Int) ↔ n ≤ j := fun j => by split at hn <;> omega
  refine sel_dec (fun hge => k (-1) (.inl ⟨rfl, fun j hj => o.tail j (by have := (hni j).1 hj; omega)⟩)) (fun hlt => ?_)
  rcases h with ⟨rfl, rfl, rfl⟩ | ⟨p, bw, rfl, hs, rfl⟩
  · exfalso; apply hlt; show (n : Int) ≥ ((0 : Nat) : Int); omega
  have hnN : n < S.N := by omega
  have e1 : IntKind.wrap .i64 (Int.tdiv (n : Int) 64) = ((n / 64 : Nat) : Int) := by rw [tdiv64, w64 (by omega) (by omega)]
  refine ptr_in ⟨_, _, _, hs.words, ?_⟩
  simp only [e1, tmod64, Int.toNat_natCast, Nat.mul_one]
  refine when_dec ⟨by omega, by omega⟩ (ptr_in ⟨_, hs.word (by omega), when_dec (by omega) (when_dec (by omega) ?_)⟩)
  have ew : IntKind.wrap .u64 (Int.fdiv ((S.ws.getD (n / 64) 0 : Nat) : Int) (2 ^ (min (n % 64) 64)) * 2 ^ (min (n % 64) 64)) = ((((S.w (n / 64)) >>> (n % 64)) <<< (n % 64) : Nat) : Int) := by
    have hw := o.wlt (n / 64)
    rw [shr_nat _ _ (by omega), show min (n % 64) 64 = n % 64 by omega]
    have e5 : (((S.ws.getD (n / 64) 0 >>> (n % 64) : Nat) : Int)) * 2 ^ (n % 64) = ((((S.w (n / 64)) >>> (n % 64)) <<< (n % 64) : Nat) : Int) := by
      rw [Nat.shiftLeft_eq]; norm_cast
    rw [e5]
    refine u64 (Int.natCast_nonneg _) ?_
    have : ((S.w (n / 64)) >>> (n % 64)) <<< (n % 64) ≤ S.w (n / 64) := by
      rw [Nat.shiftLeft_eq, Nat.shiftRight_eq_div_pow]; exact Nat.div_mul_le_self _ _
    omega
  refine lt_eq ew (lt_eq rfl ?_)
  have bitx : ∀ j, (((S.w (n / 64)) >>> (n % 64)) <<< (n % 64)).testBit j = (decide (n % 64 ≤ j) && (S.w (n / 64)).testBit j) := fun j => by
    rw [Nat.testBit_shiftLeft]
    by_cases hj : n % 64 ≤ j
    · rw [Nat.testBit_shiftRight]; simp [hj, show n % 64 + (j - n % 64) = j by omega]
    · simp [hj]
  refine ⟨fun x t w' => w' = w ∧ ∃ (y m : Nat), x = y ∧ t = m ∧ n / 64 ≤ m ∧ m < S.ws.length ∧ y < 18446744073709551616 ∧ (∀ j, j < 64 → y.testBit j = (decide (n ≤ 64 * m + j) && S.mem (64 * m + j))) ∧ (∀ j : Nat, n ≤ j → j < 64 * m → S.mem j = false), fun _ t _ => S.ws.length - t.toNat,
    ⟨rfl, _, n / 64, rfl, rfl, Nat.le_refl _, by omega, ?_, fun j hj => ?_, fun j h1 h2 => by omega⟩, ?_⟩
  · have : ((S.w (n / 64)) >>> (n % 64)) <<< (n % 64) ≤ S.w (n / 64) := by
      rw [Nat.shiftLeft_eq, Nat.shiftRight_eq_div_pow]; exact Nat.div_mul_le_self _ _
    have := o.wlt (n / 64)
    omega
  · rw [bitx, S.w_bit _ _ hj]
    congr 1
    apply decide_eq_decide.2; omega
  rintro _ _ _ _ ⟨rfl, y, m, rfl, rfl, hm0, hml, hy, hbit, hno⟩
  refine sel_intro (fun hne => ?_) (fun heq => ?_)
  · have hy0 : y ≠ 0 := fun e => by rw [e] at hne; simp at hne
    obtain ⟨c, hc, hlow⟩ := low_exists 64 y hy0 (by omega)
    refine TrailingZeros64_c hlow hc hy ht ⟨_, rfl, lt_eq (y := ((64 * m + c : Nat) : Int)) ?_ (k _ (.inr ⟨64 * m + c, rfl, ?_, ?_, fun j h1 h2 => ?_⟩))⟩
    · rw [w64 (x := 64 * (m : Int)) (by omega) (by omega), w64 (by omega) (by omega)]; omega
    · have := hbit c hc
      rw [hlow.1] at this
      have := this.symm
      simp only [Bool.and_eq_true, decide_eq_true_eq] at this
      exact (hni _).2 this.1
    · have := hbit c hc
      rw [hlow.1] at this
      have := this.symm
      simp only [Bool.and_eq_true, decide_eq_true_eq] at this
      exact this.2
    · have hnj := (hni j).1 h1
      by_cases hj : j < 64 * m
      · exact hno j hnj hj
      · have := hbit (j - 64 * m) (by omega)
        rw [hlow.2 (j - 64 * m) (by omega), show 64 * m + (j - 64 * m) = j by omega] at this
        simpa [hnj] using this.symm
  · have hy0 : y = 0 := by simpa using heq
    have hno' : ∀ j : Nat, n ≤ j → j < 64 * (m + 1) → S.mem j = false := fun j h1 h2 => by
      by_cases hj : j < 64 * m
      · exact hno j h1 hj
      · have := hbit (j - 64 * m) (by omega)
        rw [hy0, show 64 * m + (j - 64 * m) = j by omega] at this
        simpa [h1] using this.symm
    refine ptr_in ⟨_, _, _, hs.words, ?_⟩
    rw [up64 m (by omega)]
    refine sel_intro (fun hend => k (-1) (.inl ⟨rfl, fun j hj => ?_⟩)) (fun hgo => ?_)
    · have hend : m + 1 = S.ws.length := by
        have := eq_of_beq hend; omega
      have hnj := (hni j).1 hj
      by_cases hj2 : j < 64 * (m + 1)
      · exact hno' j hnj hj2
      · exact o.tail j (by omega)
    · have hgo : m + 1 ≠ S.ws.length := fun e => by rw [e] at hgo; simp at hgo
      refine ptr_in ⟨_, _, _, hs.words, when_dec ⟨by omega, by omega⟩ (ptr_in ⟨((S.w (m + 1) : Nat) : Int), ?_, ⟨rfl, S.w (m + 1), m + 1, rfl, rfl, by omega, by omega, o.wlt _, fun j hj => ?_, fun j h1 h2 => hno' j h1 h2⟩, ?_⟩)⟩
      · first | exact hs.word (by omega) | (rw [Int.toNat_natCast, Nat.mul_one]; exact hs.word (by omega))
      · rw [S.w_bit _ _ hj]
        simp [show n ≤ 64 * (m + 1) + j by omega]
      · exact down (by omega)
end Go.Proofs.YtbaglnffgbnekaaDoor
