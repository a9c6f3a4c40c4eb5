/- Labels: names, keys and values as lists of bytes; no program. -/
import Derived.Lib.Split
set_option linter.unusedVariables false
set_option linter.unusedSimpArgs false
namespace Go.B
open Go.Lib

def lowB (c : Int) : Bool := decide ((97 ≤ c ∧ c ≤ 122) ∨ (48 ≤ c ∧ c ≤ 57))
def wordB (c : Int) : Bool := lowB c || decide (65 ≤ c ∧ c ≤ 90)
def innerB (c : Int) : Bool := wordB c || decide (c = 45 ∨ c = 95 ∨ c = 46)
def lowU (c : UInt8) : Bool := lowB (c.toNat : Int)
def wordU (c : UInt8) : Bool := wordB (c.toNat : Int)
def innerU (c : UInt8) : Bool := innerB (c.toNat : Int)
/-- The text at its first byte c. -/
def cut1 (c : UInt8) : List UInt8 → Option (List UInt8 × List UInt8)
  | [] => none
  | x :: r => if x = c then some ([], r) else (cut1 c r).map fun p => (x :: p.1, p.2)
/-- The text at each byte c. -/
def cutS (c : UInt8) : List UInt8 → List (List UInt8)
  | [] => [[]]
  | x :: r => if x = c then [] :: cutS c r else match cutS c r with
    | [] => [[x]]
    | p :: ps => (x :: p) :: ps
def partS (l : List UInt8) : Bool := decide (l ≠ []) && (l.all (fun c => lowU c || c == 45) && (lowU (l.headD 0) && lowU (l.getLastD 0)))
def nameS (l : List UInt8) : Bool := decide (l.length ≤ 63) && (cutS 46 l).all partS
def shortS (l : List UInt8) : Bool := decide (l ≠ []) && (decide (l.length ≤ 63) && (l.all innerU && (wordU (l.headD 0) && wordU (l.getLastD 0))))
def valS (l : List UInt8) : Bool := decide (l = []) || (decide (l.length ≤ 63) && (l.all innerU && ((wordU (l.headD 0) || l.headD 0 == 45) && wordU (l.getLastD 0))))
def keyS (l : List UInt8) : Bool := match cut1 47 l with
  | none => shortS l
  | some p => nameS p.1 && shortS p.2

theorem cut_cases (c : UInt8) : ∀ l : List UInt8, c ∉ l ∨ ∃ a b, l = a ++ c :: b ∧ c ∉ a
  | [] => .inl (by simp)
  | x :: r => by
    by_cases h : x = c
    · exact .inr ⟨[], r, by simp [h], by simp⟩
    · rcases cut_cases c r with h1 | ⟨a, b, h1, h2⟩
      · exact .inl (by simp [h1, Ne.symm h])
      · exact .inr ⟨x :: a, b, by simp [h1], by simp [h2, Ne.symm h]⟩
theorem cut1_not {c : UInt8} : ∀ {l : List UInt8}, c ∉ l → cut1 c l = none
  | [], _ => rfl
  | x :: r, h => by
    have h1 : x ≠ c := fun e => h (by simp [e])
    have h2 : c ∉ r := fun e => h (by simp [e])
    simp [cut1, h1, cut1_not h2]
theorem cut1_app {c : UInt8} {b : List UInt8} : ∀ {a : List UInt8}, c ∉ a → cut1 c (a ++ c :: b) = some (a, b)
  | [], _ => by simp [cut1]
  | x :: r, h => by
    have h1 : x ≠ c := fun e => h (by simp [e])
    have h2 : c ∉ r := fun e => h (by simp [e])
    simp [cut1, h1, cut1_app h2]
theorem cutS_not {c : UInt8} : ∀ {l : List UInt8}, c ∉ l → cutS c l = [l]
  | [], _ => rfl
  | x :: r, h => by
    have h1 : x ≠ c := fun e => h (by simp [e])
    have h2 : c ∉ r := fun e => h (by simp [e])
    simp [cutS, h1, cutS_not h2]
theorem cutS_app {c : UInt8} {b : List UInt8} : ∀ {a : List UInt8}, c ∉ a → cutS c (a ++ c :: b) = a :: cutS c b
  | [], _ => by simp [cutS]
  | x :: r, h => by
    have h1 : x ≠ c := fun e => h (by simp [e])
    have h2 : c ∉ r := fun e => h (by simp [e])
    simp [cutS, h1, cutS_app h2]
theorem cutS_ne (c : UInt8) (l : List UInt8) : cutS c l ≠ [] := by
  rcases cut_cases c l with h | ⟨a, b, rfl, h⟩
  · simp [cutS_not h]
  · simp [cutS_app h]
theorem index_not {c : UInt8} : ∀ {l : List UInt8}, c ∉ l → index l [c] = -1
  | [], _ => rfl
  | x :: r, h => by
    have h1 : (c == x) = false := by rw [beq_eq_false_iff_ne]; exact fun e => h (by simp [e])
    have h2 : c ∉ r := fun e => h (by simp [e])
    simp [index, List.isPrefixOf, h1, index_not h2]
theorem index_app {c : UInt8} {b : List UInt8} : ∀ {a : List UInt8}, c ∉ a → index (a ++ c :: b) [c] = (a.length : Int)
  | [], _ => by simp [index, List.isPrefixOf]
  | x :: r, h => by
    have h1 : (c == x) = false := by rw [beq_eq_false_iff_ne]; exact fun e => h (by simp [e])
    have h2 : c ∉ r := fun e => h (by simp [e])
    have h3 : ((r.length : Int) == -1) = false := by rw [beq_eq_false_iff_ne]; omega
    simp [index, List.isPrefixOf, h1, index_app h2, h3]
theorem splitK_one (c : UInt8) : ∀ (n : Nat) (l : List UInt8), l.length ≤ n → splitK [c] 0 (count l [c]) l = cutS c l := by
  intro n
  induction n with
  | zero =>
    intro l h
    obtain rfl := List.length_eq_zero_iff.1 (Nat.le_zero.1 h)
    rfl
  | succ n ih =>
    intro l h
    rcases cut_cases c l with h1 | ⟨a, b, rfl, h1⟩
    · rw [cutS_not h1]
      have := count_miss (index_not h1)
      rw [this]; rfl
    · have hi := index_app (b := b) h1
      have hd : (a ++ c :: b).drop (a.length + [c].length) = b := by
        rw [show a ++ c :: b = (a ++ [c]) ++ b by simp, List.drop_left' (by simp)]
      have hc := count_hit (s := a ++ c :: b) (sub := [c]) (by simp) hi
      rw [hd] at hc
      have ht : ((a.length : Int)).toNat = a.length := by omega
      rw [hc, Nat.add_comm, cutS_app h1, splitK, hi, if_neg (by rw [beq_iff_eq]; omega), ht, hd, ih b (by simp at h; omega)]
      simp
theorem split_one (c : UInt8) (s : ByteArray) : (splitB ⟨#[c]⟩ 0 (countB s ⟨#[c]⟩) s).map (·.data.toList) = cutS c s.data.toList := by
  rw [splitB_data]
  exact splitK_one c _ _ (Nat.le_refl _)
theorem cut_not {c : UInt8} {l : List UInt8} (h : c ∉ l) : cut l [c] = (l, [], false) := by
  unfold cut
  rw [index_not h, if_neg (by omega)]
theorem cut_app {c : UInt8} {a b : List UInt8} (h : c ∉ a) : cut (a ++ c :: b) [c] = (a, b, true) := by
  unfold cut
  have hd : (a ++ c :: b).drop (a.length + [c].length) = b := by
    rw [show a ++ c :: b = (a ++ [c]) ++ b by simp, List.drop_left' (by simp)]
  rw [index_app h, if_pos (by omega), show ((a.length : Int)).toNat = a.length by omega, hd, List.take_left' rfl]
theorem short_no {l : List UInt8} {c : UInt8} (hc : innerU c = false) (h : c ∈ l) : shortS l = false := by
  unfold shortS
  have : l.all innerU = false := by
    rw [Bool.eq_false_iff]
    intro ha
    rw [List.all_eq_true.1 ha c h] at hc
    cases hc
  simp [this]
theorem short_len {l : List UInt8} (h : shortS l = true) : l.length ≤ 63 ∧ l ≠ [] := by
  unfold shortS at h
  simp only [Bool.and_eq_true, decide_eq_true_eq] at h
  exact ⟨h.2.1, h.1⟩
theorem name_len {l : List UInt8} (h : nameS l = true) : l.length ≤ 63 := by
  unfold nameS at h
  simp only [Bool.and_eq_true, decide_eq_true_eq] at h
  exact h.1
/-- A key has at most 127 bytes. -/
theorem key_len {l : List UInt8} (h : keyS l = true) : l.length ≤ 127 := by
  unfold keyS at h
  rcases cut_cases 47 l with h1 | ⟨a, b, rfl, h1⟩
  · rw [cut1_not h1] at h
    have := (short_len h).1
    omega
  · rw [cut1_app h1] at h
    simp only [Bool.and_eq_true] at h
    have h2 := name_len h.1
    have h3 := (short_len h.2).1
    simp; omega
/-- The document's way to a key: all pieces. -/
theorem key_pieces (l : List UInt8) : keyS l = (match cutS 47 l with
    | [a] => shortS a
    | [a, b] => nameS a && shortS b
    | _ => false) := by
  unfold keyS
  rcases cut_cases 47 l with h1 | ⟨a, b, rfl, h1⟩
  · rw [cut1_not h1, cutS_not h1]
  · rw [cut1_app h1, cutS_app h1]
    rcases cut_cases 47 b with h2 | ⟨x, y, rfl, h2⟩
    · rw [cutS_not h2]
    · rw [cutS_app h2]
      have hs : shortS (x ++ 47 :: y) = false := short_no (c := 47) (by decide) (by simp)
      have hy := cutS_ne 47 y
      match hq : cutS 47 y with
      | [] => exact absurd hq hy
      | p :: ps => simp [hs]
theorem name_ne {l : List UInt8} (h : nameS l = true) : l ≠ [] := by
  rintro rfl
  revert h; decide
theorem key_ne {l : List UInt8} (h : keyS l = true) : l ≠ [] := by
  rintro rfl
  revert h; decide
end Go.B
