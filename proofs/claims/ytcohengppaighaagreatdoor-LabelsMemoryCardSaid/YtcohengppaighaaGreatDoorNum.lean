/- Decimal numerals: what is written is read back, and the other way round; no program. -/
import Derived.Lib.ItoaMem
set_option linter.unusedVariables false
set_option linter.unusedSimpArgs false
namespace Go.B
open Go.Lib

def isD (c : UInt8) : Bool := decide (48 ≤ c.toNat ∧ c.toNat ≤ 57)
def dval (ds : List UInt8) : Nat := ds.foldl (fun n c => 10 * n + (c.toNat - 48)) 0
theorem dval_snoc (ds : List UInt8) (c : UInt8) : dval (ds ++ [c]) = 10 * dval ds + (c.toNat - 48) := by simp [dval, List.foldl_append]
theorem snoc_of {α : Type} (l : List α) (h : l ≠ []) : ∃ l' c, l = l' ++ [c] := ⟨l.dropLast, l.getLast h, (List.dropLast_concat_getLast h).symm⟩
theorem isD_b {c : UInt8} (h : isD c = true) : 48 ≤ c.toNat ∧ c.toNat ≤ 57 := by simpa [isD] using h
theorem u8_ext {a b : UInt8} (h : a.toNat = b.toNat) : a = b := UInt8.toNat_inj.1 h
theorem ofNat_dig {d : Nat} (h : d < 10) : (UInt8.ofNat (48 + d)).toNat = 48 + d := by
  rw [UInt8.toNat_ofNat']
  omega
theorem dval_lt : ∀ (n : Nat) (ds : List UInt8), ds.length = n → (∀ c ∈ ds, isD c = true) → dval ds < 10 ^ n
  | 0, ds, h, _ => by
    obtain rfl := List.length_eq_zero_iff.1 h
    decide
  | n + 1, ds, h, hd => by
    obtain ⟨l, c, rfl⟩ := snoc_of ds (by intro e; subst e; simp at h)
    have hl : l.length = n := by simpa using h
    have := dval_lt n l hl fun x hx => hd x (by simp [hx])
    have hc := isD_b (hd c (by simp))
    rw [dval_snoc, Nat.pow_succ]
    omega
theorem dec_dval : ∀ (n : Nat) (ds : List UInt8), ds.length = n + 1 → (∀ c ∈ ds, isD c = true) → (ds.headD 0 ≠ 48 ∨ n = 0) → decDigits (dval ds) = ds ∧ (ds.headD 0 ≠ 48 → 1 ≤ dval ds)
  | 0, ds, h, hd, _ => by
    match ds, h with
    | [c], _ =>
      have hc := isD_b (hd c (by simp))
      have e : dval [c] = c.toNat - 48 := by simp [dval]
      rw [e]
      refine ⟨?_, fun hne => ?_⟩
      · rw [decDigits_one (by omega)]
        congr 1
        refine u8_ext ?_
        rw [ofNat_dig (by omega)]
        omega
      · have : c.toNat ≠ 48 := fun he => hne (u8_ext he)
        omega
  | n + 1, ds, h, hd, hh => by
    obtain ⟨l, c, rfl⟩ := snoc_of ds (by intro e; subst e; simp at h)
    have hl : l.length = n + 1 := by simpa using h
    have hhead : (l ++ [c]).headD 0 = l.headD 0 := by
      match l, hl with
      | x :: r, _ => rfl
    rw [hhead] at hh ⊢
    have hh' : l.headD 0 ≠ 48 := by rcases hh with h1 | h1 <;> first | exact h1 | omega
    obtain ⟨i1, i2⟩ := dec_dval n l hl (fun x hx => hd x (by simp [hx])) (.inl hh')
    have hp := i2 hh'
    have hc := isD_b (hd c (by simp))
    rw [dval_snoc]
    refine ⟨?_, fun _ => by omega⟩
    rw [decDigits, dif_neg (by omega), show (10 * dval l + (c.toNat - 48)) / 10 = dval l by omega, show (10 * dval l + (c.toNat - 48)) % 10 = c.toNat - 48 by omega, i1]
    congr 2
    refine u8_ext ?_
    rw [ofNat_dig (by omega)]
    omega
theorem dec_digit (u : Nat) : ∀ c ∈ decDigits u, isD c = true := by
  induction u using Nat.strongRecOn with
  | _ u ih =>
    intro c hc
    rw [decDigits] at hc
    split at hc
    · simp only [List.mem_singleton] at hc
      subst hc
      unfold isD
      rw [ofNat_dig (by omega)]
      simp; omega
    · simp only [List.mem_append, List.mem_singleton] at hc
      rcases hc with h1 | h1
      · exact ih (u / 10) (by omega) c h1
      · subst h1
        unfold isD
        rw [ofNat_dig (by omega)]
        simp; omega
theorem dval_dec (u : Nat) : dval (decDigits u) = u := by
  induction u using Nat.strongRecOn with
  | _ u ih =>
    rw [decDigits]
    split
    · show 10 * 0 + ((UInt8.ofNat (48 + u)).toNat - 48) = u
      rw [ofNat_dig (by omega)]
      omega
    · rw [dval_snoc, ih (u / 10) (by omega), ofNat_dig (by omega)]
      omega
theorem dec_head (u : Nat) (h : 1 ≤ u) : (decDigits u).headD 0 ≠ 48 := by
  induction u using Nat.strongRecOn with
  | _ u ih =>
    rw [decDigits]
    split
    · intro e
      have : (UInt8.ofNat (48 + u)).toNat = 48 := by
        have e' : UInt8.ofNat (48 + u) = 48 := e
        rw [e']; rfl
      rw [ofNat_dig (by omega)] at this
      omega
    · rename_i hu
      have := ih (u / 10) (by omega) (by omega)
      have hl : (decDigits (u / 10)).length = nDigits (u / 10) := decDigits_length _
      have hp := nDigits_pos (u / 10)
      match hq : decDigits (u / 10), this with
      | [], _ => rw [hq] at hl; simp at hl; omega
      | x :: r, hx => exact hx
theorem nDigits_le : ∀ (k u : Nat), u < 10 ^ (k + 1) → nDigits u ≤ k + 1
  | 0, u, h => by rw [nDigits_small (by simpa using h)]; omega
  | k + 1, u, h => by
    by_cases hu : u < 10
    · rw [nDigits_small hu]; omega
    · rw [nDigits_big hu]
      have := nDigits_le k (u / 10) (by rw [Nat.pow_succ] at h; omega)
      omega
/-- How labels.Int reads a text. -/
def digitsOf (v : List UInt8) : List UInt8 := if v.head? = some 45 then v.tail else v
def intOf (v : List UInt8) : Option Int :=
  if (digitsOf v).length < 1 ∨ 15 < (digitsOf v).length then none
  else if (digitsOf v).all isD = false then none
  else if (digitsOf v).headD 0 = 48 ∧ v ≠ [48] then none
  else some (if (digitsOf v).length < v.length then -(dval (digitsOf v) : Int) else (dval (digitsOf v) : Int))
theorem digits_neg (r : List UInt8) : digitsOf (45 :: r) = r := by simp [digitsOf]
theorem digits_pos {v : List UInt8} (h : v.head? ≠ some 45) : digitsOf v = v := by unfold digitsOf; rw [if_neg h]
theorem intOf_itoa {n : Int} (h : -999999999999999 ≤ n ∧ n ≤ 999999999999999) : intOf (itoa n) = some n := by
  have key : ∀ u : Nat, u ≤ 999999999999999 → (decDigits u).length ≤ 15 ∧ 1 ≤ (decDigits u).length ∧ (decDigits u).all isD = true ∧ (decDigits u).head? ≠ some 45 := fun u hu => by
    have h1 := nDigits_le 14 u (by omega)
    have h2 := nDigits_pos u
    rw [decDigits_length]
    refine ⟨h1, h2, List.all_eq_true.2 (dec_digit u), fun e => ?_⟩
    have := isD_b (dec_digit u 45 (List.mem_of_mem_head? e))
    have h45 : (45 : UInt8).toNat = 45 := rfl
    omega
  unfold itoa
  split
  · rename_i hn
    obtain ⟨k1, k2, k3, -⟩ := key n.natAbs (by omega)
    have e := digits_neg (decDigits n.natAbs)
    unfold intOf
    rw [e, if_neg (by omega), if_neg (by rw [k3]; decide), if_neg (fun hh => dec_head n.natAbs (by omega) hh.1), if_pos (by simp), dval_dec]
    congr 1
    omega
  · rename_i hn
    obtain ⟨k1, k2, k3, k4⟩ := key n.toNat (by omega)
    have e := digits_pos k4
    unfold intOf
    rw [e, if_neg (by omega), if_neg (by rw [k3]; decide), if_neg (fun hh => ?_), if_neg (by omega), dval_dec]
    · congr 1
      omega
    · by_cases h0 : n.toNat = 0
      · rw [h0] at hh
        exact hh.2 (by rw [decDigits_one (by omega)]; rfl)
      · exact dec_head n.toNat (by omega) hh.1
theorem itoa_intOf {v : List UInt8} {k : Int} (h : intOf v = some k) : itoa k = v ∧ -999999999999999 ≤ k ∧ k ≤ 999999999999999 := by
  unfold intOf at h
  generalize hds : digitsOf v = ds at h
  split at h
  · cases h
  rename_i hl
  split at h
  · cases h
  rename_i ha
  split at h
  · cases h
  rename_i h0
  have had : ∀ c ∈ ds, isD c = true := List.all_eq_true.1 (by simpa using ha)
  obtain ⟨m, hm⟩ : ∃ m, ds.length = m + 1 := ⟨ds.length - 1, by omega⟩
  have hlt := dval_lt _ _ rfl had
  have hlt' : dval ds < 10 ^ 15 := Nat.lt_of_lt_of_le hlt (Nat.pow_le_pow_right (by omega) (by omega))
  have hlt15 : dval ds ≤ 999999999999999 := by
    have : (10 : Nat) ^ 15 = 1000000000000000 := by decide
    omega
  have hcond : ds.headD 0 ≠ 48 ∨ m = 0 := by
    by_cases hh : ds.headD 0 = 48
    · have hv : v = [48] := Classical.byContradiction fun hne => h0 ⟨hh, hne⟩
      right
      subst hv
      have : (digitsOf [48]).length = 1 := rfl
      rw [hds] at this
      omega
    · exact .inl hh
  obtain ⟨d1, d2⟩ := dec_dval m _ hm had hcond
  by_cases hs : v.head? = some 45
  · obtain ⟨r, rfl⟩ : ∃ r, v = 45 :: r := by
      match v, hs with
      | x :: r, hs => simp at hs; subst hs; exact ⟨r, rfl⟩
    rw [digits_neg] at hds
    subst hds
    rw [if_pos (by simp)] at h
    have hk := Option.some.inj h
    have hne : r.headD 0 ≠ 48 := fun hh => h0 ⟨hh, by simp⟩
    have hp := d2 hne
    subst hk
    refine ⟨?_, by omega, by omega⟩
    unfold itoa
    rw [if_pos (by omega), Int.natAbs_neg, Int.natAbs_natCast, d1]
  · rw [digits_pos hs] at hds
    subst hds
    rw [if_neg (by omega)] at h
    have hk := Option.some.inj h
    subst hk
    refine ⟨?_, by omega, by omega⟩
    unfold itoa
    rw [if_neg (by omega), Int.toNat_natCast, d1]
end Go.B
