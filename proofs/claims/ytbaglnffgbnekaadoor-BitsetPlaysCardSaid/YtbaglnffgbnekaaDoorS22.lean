/- Sets: Prev and Select; how Next, Prev, Rank and Select fit one another. -/
import Derived.Test.YtbaglnffgbnekaaDoorS20
set_option linter.unusedVariables false
set_option linter.unusedSimpArgs false
namespace Go.Proofs.YtbaglnffgbnekaaDoor
open Go Go.V Go.B

/-! ### ranks -/
theorem rank_mono (S : SetV) {i j : Nat} (h : i ≤ j) : S.rank i ≤ S.rank j := by
  obtain ⟨d, rfl⟩ := Nat.le.dest h
  induction d with
  | zero => exact Nat.le_refl _
  | succ d ih =>
    have := ih (by omega)
    have h2 := rank_succ S (i + d)
    rw [show i + (d + 1) = i + d + 1 by omega, h2]
    omega
theorem rank_lt (S : SetV) {m j : Nat} (hm : S.mem m = true) (h : m < j) : S.rank m < S.rank j := by
  have h1 := rank_succ S m
  rw [if_pos hm] at h1
  have := rank_mono S (show m + 1 ≤ j from h)
  omega
theorem rank_none (S : SetV) {i j : Nat} (h : i ≤ j) (hn : ∀ k, i ≤ k → k < j → S.mem k = false) : S.rank i = S.rank j := by
  obtain ⟨d, rfl⟩ := Nat.le.dest h
  induction d with
  | zero => rfl
  | succ d ih =>
    have := ih (by omega) fun k h1 h2 => hn k h1 (by omega)
    rw [show i + (d + 1) = i + d + 1 by omega, rank_succ, if_neg (by rw [hn (i + d) (by omega) (by omega)]; simp)]
    exact this
theorem rank_inj (S : SetV) {m m' : Nat} (h : S.mem m = true) (h' : S.mem m' = true) (e : S.rank m = S.rank m') : m = m' := by
  rcases Nat.lt_trichotomy m m' with h1 | h1 | h1
  · have := rank_lt S h h1; omega
  · exact h1
  · have := rank_lt S h' h1; omega
theorem rank_count {S : SetV} (o : S.Ok) {m : Nat} (h : S.mem m = true) : S.rank m < S.count := rank_lt S h (o.mem_lt h)
/-- The member with k members below it, or -1. -/
def SelectV (S : SetV) (k r : Int) : Prop := (r = -1 ∧ (k < 0 ∨ (S.count : Int) ≤ k)) ∨ ∃ m : Nat, r = (m : Int) ∧ S.mem m = true ∧ (S.rank m : Int) = k
theorem select_one {S : SetV} (o : S.Ok) {k r r' : Int} (h : SelectV S k r) (h' : SelectV S k r') : r = r' := by
  rcases h with ⟨rfl, h⟩ | ⟨m, rfl, hm, e⟩ <;> rcases h' with ⟨rfl, h'⟩ | ⟨m', rfl, hm', e'⟩
  · rfl
  · have := rank_count o hm'; omega
  · have := rank_count o hm; omega
  · rw [rank_inj S hm hm' (by omega)]
theorem next_select {S : SetV} (o : S.Ok) {i r : Int} (h : NextV S i r) : SelectV S (S.rank i.toNat : Int) r := by
  rcases h with ⟨rfl, hn⟩ | ⟨m, rfl, hi, hm, hn⟩
  · refine .inl ⟨rfl, .inr ?_⟩
    rcases Nat.lt_or_ge i.toNat S.N with h1 | h1
    · have := rank_none S (i := i.toNat) (j := S.N) (by omega) fun k h2 _ => hn k (by omega)
      unfold SetV.count; omega
    · have := rank_full o h1
      unfold SetV.count; omega
  · refine .inr ⟨m, rfl, hm, ?_⟩
    have := rank_none S (i := i.toNat) (j := m) (by omega) fun k h2 h3 => hn k (by omega) h3
    omega
/-- The highest member up to i, or -1. -/
def PrevV (S : SetV) (i r : Int) : Prop := (r = -1 ∧ ∀ j : Nat, (j : Int) ≤ i → S.mem j = false) ∨ ∃ m : Nat, r = (m : Int) ∧ (m : Int) ≤ i ∧ S.mem m = true ∧ ∀ j : Nat, m < j → (j : Int) ≤ i → S.mem j = false
theorem prev_self {S : SetV} {m : Nat} {r : Int} (h : PrevV S m r) (hm : S.mem m = true) : r = m := by
  rcases h with ⟨rfl, hn⟩ | ⟨m', rfl, hi, hm', hn⟩
  · rw [hn m (by omega)] at hm; cases hm
  · rcases Nat.lt_or_ge m' m with h1 | h1
    · rw [hn m h1 (by omega)] at hm; cases hm
    · omega
theorem prev_select {S : SetV} (o : S.Ok) {i r : Int} (h : PrevV S i r) (hn : S.has i = false) : SelectV S ((S.rank i.toNat : Int) - 1) r := by
  have hi : ∀ m : Nat, (m : Int) = i → S.mem m = false := fun m e => by
    unfold SetV.has at hn
    have h0 : 0 ≤ i := by omega
    simp [h0] at hn
    rw [← hn]; congr 1; omega
  rcases h with ⟨rfl, hn⟩ | ⟨m, rfl, hm, hmm, hn⟩
  · refine .inl ⟨rfl, .inl ?_⟩
    have := rank_none S (i := 0) (j := i.toNat) (by omega) fun k _ h2 => hn k (by omega)
    have h0 : S.rank 0 = 0 := by simp [SetV.rank]
    omega
  · refine .inr ⟨m, rfl, hmm, ?_⟩
    have hne : (m : Int) ≠ i := fun e => by rw [hi m e] at hmm; cases hmm
    have h1 := rank_none S (i := m + 1) (j := i.toNat) (by omega) fun k h2 h3 => hn k (by omega) (by omega)
    have h2 := rank_succ S m
    rw [if_pos hmm] at h2
    omega
theorem next_self {S : SetV} {m : Nat} {r : Int} (h : NextV S m r) (hm : S.mem m = true) : r = m := by
  rcases h with ⟨rfl, hn⟩ | ⟨m', rfl, hi, hm', hn⟩
  · rw [hn m (by omega)] at hm; cases hm
  · rcases Nat.lt_or_ge m m' with h1 | h1
    · rw [hn m (by omega) h1] at hm; cases hm
    · omega
theorem next_has {S : SetV} {i r : Int} (h : NextV S i r) : ((r == i) && decide (0 ≤ i)) = S.has i := by
  unfold SetV.has
  by_cases h0 : 0 ≤ i
  · have e : ((i.toNat : Nat) : Int) = i := by omega
    simp only [h0, decide_true, Bool.and_true, Bool.true_and]
    cases hm : S.mem i.toNat with
    | true =>
      rw [← e] at h
      have := next_self h hm
      simp [this, e]
    | false =>
      rcases h with ⟨rfl, hn⟩ | ⟨m, rfl, hi, hm', hn⟩
      · simp; omega
      · have : m ≠ i.toNat := fun e => by rw [e, hm] at hm'; cases hm'
        simp; omega
  · simp [h0]
theorem mem_at {S : SetV} : ∀ (n k m : Nat), ((List.range n).filter S.mem)[k]? = some m → S.mem m = true ∧ m < n ∧ S.rank m = k
  | 0, k, m, h => by simp at h
  | n + 1, k, m, h => by
    rw [List.range_succ, List.filter_append] at h
    have hl : ((List.range n).filter S.mem).length = S.rank n := by
      unfold SetV.rank
      rw [List.countP_eq_length_filter]
    rcases Nat.lt_or_ge k ((List.range n).filter S.mem).length with hk | hk
    · rw [List.getElem?_append_left hk] at h
      obtain ⟨h1, h2, h3⟩ := mem_at n k m h
      exact ⟨h1, by omega, h3⟩
    · rw [List.getElem?_append_right hk] at h
      have hm := List.mem_of_getElem? h
      rw [List.mem_filter] at hm
      obtain rfl : m = n := by simpa using hm.1
      refine ⟨hm.2, by omega, ?_⟩
      have h1 := (List.getElem?_eq_some_iff.1 h).1
      rw [List.filter_cons, if_pos hm.2] at h1
      simp at h1
      omega
theorem members_at {S : SetV} {k m : Nat} (h : S.members[k]? = some m) : S.mem m = true ∧ S.rank m = k := by
  obtain ⟨h1, _, h3⟩ := mem_at S.N k m h
  exact ⟨h1, h3⟩
theorem mi_at {S : SetV} {k : Nat} (h : k < S.count) : ∃ m : Nat, S.members[k]? = some m ∧ S.mi[k]? = some (m : Int) ∧ S.mem m = true ∧ S.rank m = k := by
  have hl : k < S.members.length := by rw [members_length]; exact h
  have e : S.members[k]? = some (S.members[k]'hl) := List.getElem?_eq_getElem hl
  obtain ⟨h1, h2⟩ := members_at e
  exact ⟨_, e, by unfold SetV.mi; rw [List.getElem?_map, e]; rfl, h1, h2⟩
/-! ### Prev -/
theorem shl_shr {W g : Nat} (hg : g < 64) (hW : W < 18446744073709551616) : Int.fdiv (IntKind.wrap .u64 ((W : Int) * 2 ^ (min g 64))) (2 ^ (min g 64)) = ((W % 2 ^ (64 - g) : Nat) : Int) := by
  have e : min g 64 = g := by omega
  rw [e]
  have e2 : ((2 : Int) ^ g) = ((2 ^ g : Nat) : Int) := by norm_cast
  have e3 : ((W : Int) * ((2 ^ g : Nat) : Int)) = ((W * 2 ^ g : Nat) : Int) := by norm_cast
  have e4 : IntKind.wrap .u64 ((W * 2 ^ g : Nat) : Int) = ((W * 2 ^ g % 18446744073709551616 : Nat) : Int) := by
    unfold IntKind.wrap
    simp only [IntKind.bits, IntKind.signed, Bool.false_and, Bool.false_eq_true, if_false]
    omega
  rw [e2, e3, e4, Int.fdiv_eq_ediv_of_nonneg _ (Int.natCast_nonneg _)]
  have e5 : (18446744073709551616 : Nat) = 2 ^ (64 - g) * 2 ^ g := by
    rw [← Nat.pow_add, show 64 - g + g = 64 by omega]
  rw [e5, Nat.mul_mod_mul_right]
  have hp : 0 < 2 ^ g := Nat.pow_pos (by omega)
  have : ((W % 2 ^ (64 - g) * 2 ^ g : Nat) : Int) / ((2 ^ g : Nat) : Int) = ((W % 2 ^ (64 - g) * 2 ^ g / 2 ^ g : Nat) : Int) := rfl
  rw [this, Nat.mul_div_cancel _ hp]
theorem Prev_c {w : World} {q : Option Addr} {S : SetV} {f : List Nat} (h : RefAt w q S f) (i : Int) {R : Ending → World → Prop} (k : ∀ r, PrevV S i r → R (.returned (.int .i64 r)) w) :
    Calls Tryd.prog 16 #[.pointer q, .int .i64 i] w R := by
  apply bitset_Set_Prev_nf
  have o := h.ok
  have hN := o.N
  have hl := o.len
  refine Size_c h ⟨_, rfl, ?_⟩
  rw [w64 (x := ((S.N : Nat) : Int) - 1) (by omega) (by omega)]
  generalize he : (if ((S.N : Nat) : Int) - 1 < i then ((S.N : Nat) : Int) - 1 else i) = e
  have hei : e ≤ i ∧ e ≤ ((S.N : Nat) : Int) - 1 ∧ (e = i ∨ e = ((S.N : Nat) : Int) - 1) := by subst he; split <;> omega
  have hle : ∀ j : Nat, (j : Int) ≤ i → S.mem j = true → (j : Int) ≤ e := fun j hj hm => by
    have := o.mem_lt hm
    omega
  refine lt_eq rfl (sel_dec (fun hneg => k (-1) (.inl ⟨rfl, fun j hj => ?_⟩)) (fun hpos => ?_))
  · cases hm : S.mem j with
    | false => rfl
    | true => have := hle j hj hm; omega
  rcases h with ⟨rfl, rfl, rfl⟩ | ⟨p, bw, rfl, hs, rfl⟩
  · exfalso
    have : ((SetV.nil.N : Nat) : Int) = 0 := rfl
    omega
  obtain ⟨n, rfl⟩ : ∃ n : Nat, e = (n : Int) := ⟨e.toNat, by omega⟩
  have hnN : n < S.N := by omega
  have e1 : IntKind.wrap .i64 (Int.tdiv (n : Int) 64) = ((n / 64 : Nat) : Int) := by rw [tdiv64, w64 (by omega) (by omega)]
  have e2 : IntKind.wrap .i64 (63 - Int.tmod (n : Int) 64) = ((63 - n % 64 : Nat) : Int) := by rw [tmod64, w64 (by omega) (by omega)]; omega
  refine lt_eq e2 (ptr_in ⟨_, _, _, hs.words, ?_⟩)
  rw [e1]
  refine when_dec ⟨by omega, by omega⟩ (ptr_in ⟨((S.w (n / 64) : Nat) : Int), by rw [Int.toNat_natCast, Nat.mul_one]; exact hs.word (by omega), when_dec (by omega) (when_dec (by omega) (lt_eq (y := ((S.w (n / 64) % 2 ^ (n % 64 + 1) : Nat) : Int)) ?_ ?_))⟩)
  · rw [Int.toNat_natCast, shl_shr (by omega) (o.wlt _), show 64 - (63 - n % 64) = n % 64 + 1 by omega]
  refine ⟨fun x t w' => w' = w ∧ ∃ (y m : Nat), x = y ∧ t = m ∧ m ≤ n / 64 ∧ y < 18446744073709551616 ∧ (∀ j, j < 64 → y.testBit j = (decide (64 * m + j ≤ n) && S.mem (64 * m + j))) ∧ (∀ j : Nat, 64 * (m + 1) ≤ j → j ≤ n → S.mem j = false), fun _ t _ => t.toNat,
    ⟨rfl, _, n / 64, rfl, rfl, Nat.le_refl _, Nat.lt_of_le_of_lt (Nat.mod_le _ _) (o.wlt _), fun j hj => ?_, fun j h1 h2 => by omega⟩, ?_⟩
  · rw [Nat.testBit_mod_two_pow, S.w_bit _ _ hj]
    congr 1
    apply decide_eq_decide.2; omega
  rintro _ _ _ _ ⟨rfl, y, m, rfl, rfl, hm, hy, hbit, hno⟩
  have hN' : m ≤ 1024 := by omega
  refine sel_intro (fun hne => ?_) (fun heq => ?_)
  · have hy0 : y ≠ 0 := fun e => by rw [e] at hne; simp at hne
    obtain ⟨c, hc, hhigh⟩ := high_exists 64 y hy0 (by omega)
    have hb := hbit c hc
    rw [hhigh.1] at hb
    have hb := hb.symm
    simp only [Bool.and_eq_true, decide_eq_true_eq] at hb
    refine LeadingZeros64_c hhigh hc hy ⟨_, rfl, lt_eq (y := ((64 * m + c : Nat) : Int)) ?_ (k _ (.inr ⟨64 * m + c, rfl, by omega, hb.2, fun j h1 h2 => ?_⟩))⟩
    · rw [w64 (x := 64 * (m : Int)) (by omega) (by omega), w64 (x := 64 * (m : Int) + 63) (by omega) (by omega), w64 (by omega) (by omega)]; omega
    · cases hmj : S.mem j with
      | false => rfl
      | true =>
        have hjn := hle j h2 hmj
        by_cases hj : j < 64 * (m + 1)
        · have := hbit (j - 64 * m) (by omega)
          rw [hhigh.2 (j - 64 * m) (by omega), show 64 * m + (j - 64 * m) = j by omega, hmj] at this
          simp at this
          omega
        · rw [hno j (by omega) (by omega)] at hmj; cases hmj
  · have hy0 : y = 0 := by simpa using heq
    have hno' : ∀ j : Nat, 64 * m ≤ j → j ≤ n → S.mem j = false := fun j h1 h2 => by
      by_cases hj : j < 64 * (m + 1)
      · have := hbit (j - 64 * m) (by omega)
        rw [hy0, show 64 * m + (j - 64 * m) = j by omega] at this
        simpa [h2] using this.symm
      · exact hno j (by omega) h2
    rw [w64 (x := (m : Int) - 1) (by omega) (by omega)]
    refine sel_dec (fun hend => k (-1) (.inl ⟨rfl, fun j hj => ?_⟩)) (fun hgo => ?_)
    · cases hmj : S.mem j with
      | false => rfl
      | true =>
        have := hle j hj hmj
        rw [hno' j (by omega) (by omega)] at hmj; cases hmj
    · obtain ⟨m', rfl⟩ : ∃ m', m = m' + 1 := ⟨m - 1, by omega⟩
      rw [show (((m' + 1 : Nat) : Int) - 1) = (m' : Int) by omega]
      refine ptr_in ⟨_, _, _, hs.words, when_dec ⟨by omega, by omega⟩ (ptr_in ⟨((S.w m' : Nat) : Int), by rw [Int.toNat_natCast, Nat.mul_one]; exact hs.word (by omega), ⟨rfl, S.w m', m', rfl, rfl, by omega, o.wlt _, fun j hj => ?_, fun j h1 h2 => hno' j h1 h2⟩, by simp only [Int.toNat_natCast]; omega⟩)⟩
      rw [S.w_bit _ _ hj]
      simp [show 64 * m' + j ≤ n by omega]
/-! ### Select -/
theorem clear_low {y c : Nat} (h : Low y c) (j : Nat) : (y &&& (y - 1)).testBit j = (y.testBit j && decide (j ≠ c)) := by
  have hf := low_form h
  generalize hq : y / 2 ^ (c + 1) = q at hf
  have hp : 0 < 2 ^ c := Nat.pow_pos (by omega)
  have hlt : 2 ^ c < 2 ^ (c + 1) := Nat.pow_lt_pow_right (by omega) (by omega)
  have h1 : y - 1 = 2 ^ (c + 1) * q + (2 ^ c - 1) := by omega
  rw [Nat.testBit_and, h1, hf, Nat.testBit_two_pow_mul_add _ hlt, Nat.testBit_two_pow_mul_add _ (show 2 ^ c - 1 < 2 ^ (c + 1) by omega)]
  by_cases hj : j < c + 1
  · rw [if_pos hj, if_pos hj, Nat.testBit_two_pow, Nat.testBit_two_pow_sub_one]
    by_cases e : c = j
    · subst e; simp
    · simp [e]
  · rw [if_neg hj, if_neg hj]
    have : j ≠ c := by omega
    simp [this]
theorem Select_c {w : World} {q : Option Addr} {S : SetV} {f : List Nat} (h : RefAt w q S f) (ht : TzAt w) (i : Int) (hi : i ≤ 9223372036854775807) {R : Ending → World → Prop} (k : ∀ r, SelectV S i r → R (.returned (.int .i64 r)) w) :
    Calls Tryd.prog 13 #[.pointer q, .int .i64 i] w R := by
  apply bitset_Set_Select_nf
  have o := h.ok
  have hN := o.N
  have hl := o.len
  rcases h with ⟨rfl, rfl, rfl⟩ | ⟨p, bw, rfl, hs, rfl⟩
  · refine sel_true rfl (k (-1) (.inl ⟨rfl, ?_⟩))
    have : SetV.nil.count = 0 := by simp [SetV.count, SetV.nil, SetV.rank]
    omega
  refine sel_false rfl (sel_dec (fun hneg => k (-1) (.inl ⟨rfl, .inl hneg⟩)) (fun hpos => ptr_in ⟨_, _, _, hs.words, ?_⟩))
  refine ⟨fun r t w' => w' = w ∧ ∃ m : Nat, t = m ∧ m ≤ S.ws.length ∧ r = i - (S.rank (64 * m) : Int) ∧ 0 ≤ r, fun _ t _ => S.ws.length - t.toNat, ⟨rfl, 0, rfl, by omega, by simp [SetV.rank], by omega⟩, ?_⟩
  rintro _ _ _ w1 ⟨rfl, m, rfl, hm, rfl, hr⟩
  have hrm := rank_le S (64 * m)
  refine sel_dec (fun hlt => ?_) (fun hge => k (-1) (.inl ⟨rfl, .inr ?_⟩))
  rotate_left
  · have h1 : S.rank (64 * m) = S.rank S.N := rank_full o (by omega)
    unfold SetV.count; omega
  have hml : m < S.ws.length := by omega
  refine when_dec ⟨by omega, by omega⟩ (ptr_in ⟨((S.w m : Nat) : Int), by rw [Int.toNat_natCast, Nat.mul_one]; exact hs.word hml, OnesCount64_c (o.wlt m) ⟨_, rfl, ?_⟩⟩)
  have hpart := rank_part S m 64 (Nat.le_refl _)
  rw [show 64 * m + 64 = 64 * (m + 1) by omega] at hpart
  have hpc := pc_le 64 (S.w m)
  refine sel_dec (fun hnx => ?_) (fun hin => ?_)
  · rw [w64 (by omega) (by omega), up64 m (by omega)]
    exact ⟨⟨rfl, m + 1, rfl, by omega, by omega, by omega⟩, down hml⟩
  · refine ⟨fun r x w' => w' = w1 ∧ ∃ (b y : Nat), x = y ∧ y < 18446744073709551616 ∧ b ≤ 64 ∧ (∀ j, j < 64 → y.testBit j = (decide (b ≤ j) && (S.w m).testBit j)) ∧ r = i - (S.rank (64 * m + b) : Int) ∧ 0 ≤ r, fun r _ _ => r.toNat, ⟨rfl, 0, S.w m, rfl, o.wlt _, by omega, fun j _ => by simp, by simp, hr⟩, ?_⟩
    rintro _ _ _ _ ⟨rfl, b, y, rfl, hy, hb, hbit, rfl, hr'⟩
    have hrb := rank_le S (64 * m + b)
    have hmb : ∀ j, j < 64 → b ≤ j → y.testBit j = S.mem (64 * m + j) := fun j hj hbj => by
      rw [hbit j hj, S.w_bit _ _ hj]; simp [hbj]
    have hy0 : y ≠ 0 := fun e => by
      have := rank_none S (i := 64 * m + b) (j := 64 * (m + 1)) (by omega) fun j h1 h2 => by
        have := hmb (j - 64 * m) (by omega) (by omega)
        rw [e, show 64 * m + (j - 64 * m) = j by omega] at this
        simpa using this.symm
      omega
    obtain ⟨c, hc, hlow⟩ := low_exists 64 y hy0 (by omega)
    have hcb := hbit c hc
    rw [hlow.1] at hcb
    have hcb := hcb.symm
    simp only [Bool.and_eq_true, decide_eq_true_eq] at hcb
    have hmem : S.mem (64 * m + c) = true := by rw [← hmb c hc hcb.1]; exact hlow.1
    have hrank := rank_none S (i := 64 * m + b) (j := 64 * m + c) (by omega) fun j h1 h2 => by
      have := hmb (j - 64 * m) (by omega) (by omega)
      rw [hlow.2 (j - 64 * m) (by omega), show 64 * m + (j - 64 * m) = j by omega] at this
      exact this.symm
    refine sel_dec (fun hgo => ?_) (fun hstop => ?_)
    · have ey : IntKind.wrap .u64 ((y : Int) - 1) = ((y - 1 : Nat) : Int) := by rw [u64 (by omega) (by omega)]; omega
      have hle : y &&& (y - 1) ≤ y := Nat.and_le_left
      refine lt_eq (y := ((y &&& (y - 1) : Nat) : Int)) (by rw [ey]; exact and64 hy (by omega)) ?_
      rw [w64 (x := i - (S.rank (64 * m + b) : Int) - 1) (by omega) (by omega)]
      have h1 := rank_succ S (64 * m + c)
      rw [if_pos hmem] at h1
      refine ⟨⟨rfl, c + 1, y &&& (y - 1), rfl, by omega, by omega, fun j hj => ?_, by rw [← Nat.add_assoc]; omega, by omega⟩, by show Int.toNat _ < Int.toNat _; omega⟩
      rw [clear_low hlow]
      by_cases hjc : j < c
      · rw [hlow.2 j hjc]; simp; omega
      · by_cases e : j = c
        · subst e; simp; try omega
        · rw [hbit j hj]
          have g1 : b ≤ j := by omega
          have g2 : c + 1 ≤ j := by omega
          simp [e, g1, g2]
    · refine TrailingZeros64_c hlow hc hy ht ⟨_, rfl, lt_eq (y := ((64 * m + c : Nat) : Int)) ?_ (k _ (.inr ⟨64 * m + c, rfl, hmem, by omega⟩))⟩
      rw [w64 (x := 64 * (m : Int)) (by omega) (by omega), w64 (by omega) (by omega)]; omega
end Go.Proofs.YtbaglnffgbnekaaDoor
