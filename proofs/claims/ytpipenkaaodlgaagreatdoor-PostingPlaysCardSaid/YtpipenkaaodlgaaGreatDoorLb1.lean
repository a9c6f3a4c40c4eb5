/- Labels: names, keys, values: the program's walks. -/
import Derived.Test.YtpipenkaaodlgaaGreatDoorNA
import Derived.Test.YtpipenkaaodlgaaGreatDoorSh
import Derived.Test.YtpipenkaaodlgaaGreatDoorLp2
set_option linter.unusedVariables false
set_option linter.unusedSimpArgs false
namespace Go.Proofs.YtpipenkaaodlgaaGreatDoor
open Go Go.V Go.B

theorem low_c (c : Int) {w : World} {R : Ending → World → Prop} (k : R (.returned (.bool (lowB c))) w) : Calls Tryz.prog 114 #[.int .u8 c] w R := by
  apply labels_low_nf
  unfold lowB at k
  refine sel_dec (fun h1 => sel_dec (fun h2 => ?_) (fun h2 => sel_dec (fun h3 => ?_) (fun h3 => ?_))) (fun h1 => sel_dec (fun h3 => ?_) (fun h3 => ?_))
  · rw [decide_eq_true (.inl ⟨h1, h2⟩)] at k; exact k
  · rw [decide_eq_false (by omega)] at k; rw [decide_eq_false (by omega)]; exact k
  · omega
  · by_cases h : c ≤ 57
    · rw [decide_eq_true (.inr ⟨h3, h⟩)] at k; rw [decide_eq_true h]; exact k
    · rw [decide_eq_false (by omega)] at k; rw [decide_eq_false h]; exact k
  · rw [decide_eq_false (by omega)] at k; exact k
theorem lword_c (c : Int) {w : World} {R : Ending → World → Prop} (k : R (.returned (.bool (wordB c))) w) : Calls Tryz.prog 101 #[.int .u8 c] w R := by
  apply labels_word_nf
  unfold wordB at k
  refine low_c c ⟨_, rfl, sel_intro (fun h => ?_) (fun h => sel_dec (fun h1 => ?_) (fun h1 => ?_))⟩
  · rw [h] at k; exact k
  · rw [h, Bool.false_or] at k
    by_cases h2 : c ≤ 90
    · rw [decide_eq_true ⟨h1, h2⟩] at k; rw [decide_eq_true h2]; exact k
    · rw [decide_eq_false (by omega)] at k; rw [decide_eq_false h2]; exact k
  · rw [h, Bool.false_or, decide_eq_false (by omega)] at k; exact k
theorem inner_c (c : Int) {w : World} {R : Ending → World → Prop} (k : R (.returned (.bool (innerB c))) w) : Calls Tryz.prog 102 #[.int .u8 c] w R := by
  apply labels_inner_nf
  unfold innerB at k
  refine lword_c c ⟨_, rfl, sel_intro (fun h => ?_) (fun h => ?_)⟩
  · rw [h] at k; exact k
  rw [h, Bool.false_or] at k
  refine sel_intro (fun h1 => ?_) (fun h1 => sel_intro (fun h2 => ?_) (fun h2 => ?_))
  · have h1 : c = 45 := by simpa using h1
    rw [decide_eq_true (.inl h1)] at k; exact k
  · have h2 : c = 95 := by simpa using h2
    rw [decide_eq_true (.inr (.inl h2))] at k; exact k
  · have h1 : c ≠ 45 := by simpa using h1
    have h2 : c ≠ 95 := by simpa using h2
    by_cases h3 : c = 46
    · rw [decide_eq_true (.inr (.inr h3))] at k
      rw [h3]; exact k
    · rw [decide_eq_false (by omega)] at k
      rw [show (c == 46) = false by simpa using h3]; exact k
theorem nf_ {b : Bool} (h : (!b) = true) : b = false := by cases b <;> simp_all
theorem nt_ {b : Bool} (h : (!b) = false) : b = true := by cases b <;> simp_all
theorem bs_len (s : ByteArray) : (bs s).length = s.size := Array.length_toList
theorem byte_get {s : ByteArray} {i : Nat} (h : i < s.size) : ∃ c, (bs s)[i]? = some c ∧ byteAt s (i : Int) = (c.toNat : Int) := by
  have hl := bs_len s
  obtain ⟨c, hc⟩ : ∃ c, (bs s)[i]? = some c := ⟨_, List.getElem?_eq_getElem (by omega)⟩
  refine ⟨c, hc, ?_⟩
  have hc' : s.data.toList[i]? = some c := hc
  unfold byteAt
  rw [Int.toNat_natCast, List.getD_eq_getElem?_getD, hc']; rfl
theorem byte_head {s : ByteArray} (h : 1 ≤ s.size) : byteAt s 0 = (((bs s).headD 0).toNat : Int) := by
  obtain ⟨c, h1, h2⟩ := byte_get (s := s) (i := 0) (by omega)
  have h2 : byteAt s 0 = (c.toNat : Int) := h2
  rw [h2]
  match hq : bs s, h1 with
  | x :: r, h1 => simp at h1; rw [h1]; rfl
theorem byte_last {s : ByteArray} (h : 1 ≤ s.size) : byteAt s ((s.size - 1 : Nat) : Int) = (((bs s).getLastD 0).toNat : Int) := by
  obtain ⟨c, h1, h2⟩ := byte_get (s := s) (i := s.size - 1) (by omega)
  rw [h2, ← bs_len] at *
  rw [List.getLastD_eq_getLast?, List.getLast?_eq_getElem?, h1]; rfl
theorem bs_ne {s : ByteArray} (h : 1 ≤ s.size) : bs s ≠ [] := fun e => by
  have := bs_len s
  rw [e] at this
  simp at this; omega
theorem bs_nil {s : ByteArray} (h : s.size < 1) : bs s = [] := List.length_eq_zero_iff.1 (by rw [bs_len]; omega)
theorem last_ix {s : ByteArray} (h : 1 ≤ s.size) (h2 : s.size ≤ 63) : IntKind.wrap .i64 (((s.size : Nat) : Int) - 1) = ((s.size - 1 : Nat) : Int) := by rw [w64 (by omega) (by omega)]; omega
theorem all_no {l : List UInt8} {p : UInt8 → Bool} {i : Nat} {c : UInt8} (h : l[i]? = some c) (hp : p c = false) : l.all p = false := by
  rw [Bool.eq_false_iff]
  intro ha
  rw [List.all_eq_true.1 ha c (List.mem_of_getElem? h)] at hp
  cases hp
theorem all_more {l : List UInt8} {p : UInt8 → Bool} {i : Nat} {c : UInt8} (h : l[i]? = some c) (hp : p c = true) (ha : ∀ x ∈ l.take i, p x = true) : ∀ x ∈ l.take (i + 1), p x = true := fun x hx => by
  rw [snoc_at h] at hx
  simp only [List.mem_append, List.mem_singleton] at hx
  rcases hx with hx | rfl
  · exact ha x hx
  · exact hp
theorem all_yes {l : List UInt8} {p : UInt8 → Bool} {i : Nat} (hi : l.length ≤ i) (ha : ∀ x ∈ l.take i, p x = true) : l.all p = true := by
  rw [List.take_of_length_le hi] at ha
  exact List.all_eq_true.2 ha
theorem isShort_c (s : ByteArray) {w : World} {R : Ending → World → Prop} (k : R (.returned (.bool (shortS (bs s)))) w) : Calls Tryz.prog 100 #[.string s] w R := by
  apply labels_isShort_nf
  have hl := bs_len s
  have no : shortS (bs s) = false → R (.returned (.bool false)) w := fun h => by rw [h] at k; exact k
  refine sel_dec (fun h => no (by rw [bs_nil (by omega)]; rfl)) (fun h1 => sel_dec (fun h => no (by unfold shortS; rw [decide_eq_false (show ¬ (bs s).length ≤ 63 by omega)]; simp)) (fun h2 => ?_))
  have hh := byte_head (s := s) (by omega)
  have hla := byte_last (s := s) (by omega)
  rw [last_ix (by omega) (by omega), hh, hla]
  refine when_dec ⟨by omega, by omega⟩ (lword_c _ ⟨_, rfl, sel_intro (fun hb => no ?_) (fun hb => when_dec ⟨by omega, by omega⟩ (lword_c _ ⟨_, rfl, sel_intro (fun hb2 => no ?_) (fun hb2 => ?_)⟩))⟩)
  · have : wordU ((bs s).headD 0) = false := nf_ hb
    unfold shortS; rw [this]; simp
  · have : wordU ((bs s).getLastD 0) = false := nf_ hb2
    unfold shortS; rw [this]; simp
  have e1 : wordU ((bs s).headD 0) = true := nt_ hb
  have e2 : wordU ((bs s).getLastD 0) = true := nt_ hb2
  refine ⟨fun t w' => ∃ a : Nat, t = a ∧ a ≤ s.size ∧ w' = w ∧ ∀ x ∈ (bs s).take a, innerU x = true, fun t _ => s.size - t.toNat, ⟨0, rfl, by omega, rfl, by simp⟩, ?_⟩
  rintro _ _ _ ⟨a, rfl, ha, rfl, hall⟩
  refine sel_dec (fun hlt => ?_) (fun hge => ?_)
  · obtain ⟨c, hc, hb⟩ := byte_get (s := s) (i := a) (by omega)
    rw [hb]
    refine when_dec ⟨by omega, by omega⟩ (inner_c _ ⟨_, rfl, sel_intro (fun hi => no ?_) (fun hi => ?_)⟩)
    · have : innerU c = false := nf_ hi
      unfold shortS; rw [all_no hc this]; simp
    · have : innerU c = true := nt_ hi
      rw [up64 a (by omega)]
      exact ⟨⟨a + 1, rfl, by omega, rfl, all_more hc this hall⟩, by simp only [Int.toNat_natCast]; omega⟩
  · have : shortS (bs s) = true := by
      unfold shortS
      rw [e1, e2, all_yes (by omega) hall, decide_eq_true (bs_ne (by omega)), decide_eq_true (by omega)]; rfl
    rw [this] at k; exact k
theorem IsValue_c (s : ByteArray) {w : World} {R : Ending → World → Prop} (k : R (.returned (.bool (valS (bs s)))) w) : Calls Tryz.prog 78 #[.string s] w R := by
  apply labels_IsValue_nf
  have hl := bs_len s
  have no : bs s ≠ [] → valS (bs s) = false → R (.returned (.bool false)) w := fun _ h => by rw [h] at k; exact k
  refine sel_intro (fun h => ?_) (fun h => ?_)
  · rw [beqBytes, decide_eq_true_eq] at h
    subst h
    exact k
  have hne : s ≠ ByteArray.empty := by rw [beqBytes, decide_eq_false_iff_not] at h; exact h
  have hpos : 1 ≤ s.size := by
    rcases Nat.lt_or_ge s.size 1 with h0 | h0
    · exact absurd (bs_inj (by rw [bs_nil h0]; rfl)) hne
    · exact h0
  have hn := bs_ne hpos
  refine sel_dec (fun h => no hn (by unfold valS; rw [decide_eq_false hn, decide_eq_false (show ¬ (bs s).length ≤ 63 by omega)]; simp)) (fun h2 => ?_)
  have hh := byte_head (s := s) (by omega)
  have hla := byte_last (s := s) (by omega)
  rw [last_ix (by omega) (by omega), hla, hh]
  have body : wordU ((bs s).getLastD 0) = true → (wordU ((bs s).headD 0) || (bs s).headD 0 == 45) = true → ∀ (t : Nat), ∃ I8 : Int → World → Prop, ∃ μ9 : Int → World → Nat, I8 0 w ∧
      ∀ t29_10 (j11 : Nat → Value) (w12 : World), I8 t29_10 w12 →
      (V.sel (decide (t29_10 < ((ByteArray.size s : Nat) : Int)))
      (V.when (decide ((0 : Int) ≤ t29_10 ∧ (t29_10 : Int) < ((ByteArray.size s : Nat) : Int))) (Calls Tryz.prog 102 #[(Value.int .u8 (V.byteAt s t29_10))] w12 fun e14 w15 =>
      ∃ b13, e14 = Ending.returned (Value.bool b13) ∧
      V.sel (!b13)
      (R (Ending.returned (Value.bool false)) w15)
      (I8 (IntKind.wrap .i64 (t29_10 + 1)) w15 ∧ μ9 (IntKind.wrap .i64 (t29_10 + 1)) w15 < μ9 t29_10 w12)))
      (R (Ending.returned (Value.bool true)) w12)) := by
    intro e1 e2 _
    refine ⟨fun t w' => ∃ a : Nat, t = a ∧ a ≤ s.size ∧ w' = w ∧ ∀ x ∈ (bs s).take a, innerU x = true, fun t _ => s.size - t.toNat, ⟨0, rfl, by omega, rfl, by simp⟩, ?_⟩
    rintro _ _ _ ⟨a, rfl, ha, rfl, hall⟩
    refine sel_dec (fun hlt => ?_) (fun hge => ?_)
    · obtain ⟨c, hc, hb⟩ := byte_get (s := s) (i := a) (by omega)
      rw [hb]
      refine when_dec ⟨by omega, by omega⟩ (inner_c _ ⟨_, rfl, sel_intro (fun hi => no hn ?_) (fun hi => ?_)⟩)
      · have : innerU c = false := nf_ hi
        unfold valS; rw [all_no hc this, decide_eq_false hn]; simp
      · have : innerU c = true := nt_ hi
        rw [up64 a (by omega)]
        exact ⟨⟨a + 1, rfl, by omega, rfl, all_more hc this hall⟩, by simp only [Int.toNat_natCast]; omega⟩
    · have : valS (bs s) = true := by
        unfold valS
        rw [e1, e2, all_yes (by omega) hall, decide_eq_true (show (bs s).length ≤ 63 by omega)]; simp
      rw [this] at k; exact k
  refine when_dec ⟨by omega, by omega⟩ (lword_c _ ⟨_, rfl, sel_intro (fun hb => no hn ?_) (fun hb => when_dec ⟨by omega, by omega⟩ (lword_c _ ⟨_, rfl, sel_intro (fun hb2 => when_dec ⟨by omega, by omega⟩ (sel_intro (fun h45 => no hn ?_) (fun h45 => ?_))) (fun hb2 => ?_)⟩))⟩)
  · have : wordU ((bs s).getLastD 0) = false := nf_ hb
    unfold valS; rw [this, decide_eq_false hn]; simp
  · have e : wordU ((bs s).headD 0) = false := nf_ hb2
    have e' : ((bs s).headD 0 == 45) = false := by
      rw [beq_eq_false_iff_ne]
      intro e3
      rw [e3] at h45
      exact absurd h45 (by decide)
    unfold valS; rw [e, e', decide_eq_false hn]; simp
  · have e3 : (((bs s).headD 0).toNat : Int) = 45 := by simpa using h45
    have e4 : (bs s).headD 0 = 45 := UInt8.toNat_inj.1 (by show _ = 45; omega)
    exact body (nt_ hb) (by rw [e4]; simp) 0
  · exact body (nt_ hb) (by rw [show wordU ((bs s).headD 0) = true from nt_ hb2]; rfl) 0
/-- Texts, a cell each. -/
def SL : Lay ByteArray := ⟨fun s => [.string s], 1, fun _ => rfl, fun x v hv => by simp at hv; subst hv; rfl, by omega⟩
theorem SL_flat (l : List ByteArray) : SL.flat l = l.map Value.string := by
  induction l with
  | nil => rfl
  | cons x r ih => rw [SL.flat_cons, ih]; rfl
theorem SL_at {w : World} {A : Option Addr} {l : List ByteArray} (h : Cells w A (SL.flat l)) {a : Nat} {s : ByteArray} (hs : l[a]? = some s) : ∃ ad, A = some ad ∧ w.cell? (Addr.add ad (Int.toNat (a : Int) * 1)) = some (.string s) := by
  obtain ⟨ad, h1, h2⟩ := h a (.string s) (by rw [SL_flat, List.getElem?_map, hs]; rfl)
  exact ⟨ad, h1, by rw [Int.toNat_natCast, Nat.mul_one]; exact h2⟩
theorem Split_c (s : ByteArray) (c : UInt8) {w : World} (hs : s.size < 4294967281) {R : Ending → World → Prop}
    (k : ∀ w' A (ps : List ByteArray), Ext [] w w' → Cells w' A (SL.flat ps) → ps.map bs = cutS c (bs s) → R (.returned (.slice A ps.length ps.length)) w') : Calls Tryz.prog 113 #[.string s, .string ⟨#[c]⟩] w R := by
  apply strings_Split_nf
  have L := Tryz.lays146
  have hle := Lib.countB_le ⟨#[c]⟩ (by show 1 ≤ 1; omega) s.size s (Nat.le_refl _)
  have hlen := Lib.splitB_all ⟨#[c]⟩ (by show 1 ≤ 1; omega) 0 _ s rfl
  have hi : ∀ x : ByteArray, Lib.indexB x ⟨#[c]⟩ = Lib.indexByte x.data.toList c := fun x => Lib.index_one _ _
  have hC : Calls Tryz.prog ((Tryz.lays146_ren).f 138) #[.string s, .string ⟨#[c]⟩] w fun e w' => e = .returned (.int .i64 (Lib.countB s ⟨#[c]⟩)) ∧ w' = w := by
    refine (Any.strings_Count_one { L with } s c w).mono fun e w' ⟨he, hw⟩ => ⟨?_, hw⟩
    rw [he]
    show _ = Ending.returned (Value.int .i64 ((Lib.count s.data.toList [c] : Nat) : Int))
    rw [Lib.count_one]; rfl
  have cc := Any.strings_genSplit_core (P := Tryz.prog) (ρ := Tryz.lays146_ren) { L with } L.i9 s ⟨#[c]⟩ 0 (-1) (Lib.countB s ⟨#[c]⟩ + 1) w hs (by show 1 ≤ 1; omega) (Nat.zero_le _)
    (fun x cs _ => (Any.strings_Index_one { L with } x c _).mono fun e w' ⟨he, hw⟩ => ⟨by rw [he, hi], hw⟩) hC (by decide) (by decide) (by rw [if_pos (by decide)]; omega)
  rw [Nat.add_sub_cancel, hlen] at cc
  have e2 : Lib.cellsOf (Lib.splitB ⟨#[c]⟩ 0 (Lib.countB s ⟨#[c]⟩) s) (Lib.countB s ⟨#[c]⟩ + 1) = ((Lib.splitB ⟨#[c]⟩ 0 (Lib.countB s ⟨#[c]⟩) s).map Value.string).toArray := by rw [← hlen]; exact Lib.cellsOf_full _
  rw [e2] at cc
  refine cc.mono ?_
  rintro e w' ⟨rfl, hw⟩
  refine ⟨_, _, _, rfl, ?_⟩
  obtain ⟨b1, x1, z1⟩ := box_new (cs := (Lib.splitB ⟨#[c]⟩ 0 (Lib.countB s ⟨#[c]⟩) s).map Value.string) hw
  have := k w' (some ⟨w.heap.size, 0, none⟩) (Lib.splitB ⟨#[c]⟩ 0 (Lib.countB s ⟨#[c]⟩) s) x1 (by rw [SL_flat]; exact Cells.of_blk b1.blk) (split_one c s)
  rw [hlen] at this
  exact this
theorem Cut_c (s : ByteArray) (c : UInt8) {w : World} (hs : s.size < 4611686018427387904) {R : Ending → World → Prop}
    (k0 : c ∉ bs s → R (.returned (.tuple #[.string s, .string ByteArray.empty, .bool false])) w)
    (k1 : ∀ w' (x y : ByteArray), Ext [] w w' → bs s = bs x ++ c :: bs y → c ∉ bs x → R (.returned (.tuple #[.string x, .string y, .bool true])) w') : Calls Tryz.prog 98 #[.string s, .string ⟨#[c]⟩] w R := by
  apply strings_Cut_nf
  apply internal_stringslite_Cut_nf
  have L := Tryz.lays220
  have hl := bs_len s
  refine (Any.stringslite_Index_one (P := Tryz.prog) (ρ := Tryz.lays220_ren) { L with } s c w).mono ?_
  rintro e w' ⟨rfl, rfl⟩
  have hix : Lib.indexByte s.data.toList c = Lib.index (bs s) [c] := (Lib.index_one _ _).symm
  refine ⟨_, rfl, ?_⟩
  rw [hix]
  rcases cut_cases c (bs s) with h | ⟨a, b, h, ha⟩
  · rw [index_not h]
    exact sel_false rfl ⟨_, _, _, rfl, k0 h⟩
  · have hb : Lib.index (bs s) [c] = (a.length : Int) := by rw [h]; exact index_app ha
    have hab : a.length + 1 + b.length = s.size := by rw [← hl, h]; simp; omega
    have e1 : ((⟨#[c]⟩ : ByteArray).size : Int) = 1 := rfl
    rw [hb, e1, up64 a.length (by omega)]
    refine sel_dec (fun _ => when_dec ⟨by omega, by omega⟩ (when_dec ⟨by omega, by omega⟩ ⟨_, _, _, rfl, k1 _ _ _ ((Ext.refl [] _).drew) ?_ ?_⟩)) (fun h0 => absurd h0 (by omega))
    · have x1 : bs (s.extract 0 (Int.toNat (a.length : Int))) = a := by
        show (s.extract 0 _).data.toList = _
        rw [Lib.extract_from_zero, Int.toNat_natCast]
        show (bs s).take _ = _
        rw [h, List.take_left' rfl]
      have x2 : bs (s.extract (Int.toNat ((a.length + 1 : Nat) : Int)) s.size) = b := by
        show (s.extract _ _).data.toList = _
        simp only [ByteArray.data_extract, Array.toList_extract, List.extract_eq_take_drop]
        show ((bs s).drop _).take _ = _
        rw [Int.toNat_natCast, h, show a ++ c :: b = (a ++ [c]) ++ b by simp, List.drop_left' (by simp), List.take_of_length_le (by omega)]
      first
        | rw [x1, x2]; exact h
        | (have x3 := x2; simp only [Int.toNat_natCast] at x1 x2 ⊢; rw [x1, x2]; exact h)
    · have x1 : bs (s.extract 0 (Int.toNat (a.length : Int))) = a := by
        show (s.extract 0 _).data.toList = _
        rw [Lib.extract_from_zero, Int.toNat_natCast]
        show (bs s).take _ = _
        rw [h, List.take_left' rfl]
      rw [x1]; exact ha
theorem IsName_c (s : ByteArray) {w : World} {R : Ending → World → Prop} (k : ∀ w', Ext [] w w' → R (.returned (.bool (nameS (bs s)))) w') : Calls Tryz.prog 99 #[.string s] w R := by
  apply labels_IsName_nf
  have hl := bs_len s
  have no : nameS (bs s) = false → ∀ w', Ext [] w w' → R (.returned (.bool false)) w' := fun h w' e => by have := k w' e; rw [h] at this; exact this
  refine sel_dec (fun h => no (by rw [bs_nil (by omega)]; rfl) w (Ext.refl _ _)) (fun h1 => sel_dec (fun h => no (by unfold nameS; rw [decide_eq_false (show ¬ (bs s).length ≤ 63 by omega)]; rfl) w (Ext.refl _ _)) (fun h2 => ?_))
  refine Split_c s 46 (by omega) fun w4 A ps e4 hc hps => ⟨_, _, _, rfl, ?_⟩
  have hpl : ps.length ≤ 64 := by
    have h3 : (cutS 46 (bs s)).length ≤ (bs s).length + 1 := by
      generalize bs s = l
      induction l with
      | nil => simp [cutS]
      | cons x r ih =>
        unfold cutS
        split
        · simp; omega
        · split
          · simp
          · rename_i p qs hq
            rw [hq] at ih
            simp at ih ⊢; omega
    rw [← hps, List.length_map] at h3
    omega
  have bad : ∀ {a : Nat} {p : ByteArray}, ps[a]? = some p → partS (bs p) = false → nameS (bs s) = false := fun {a p} hp hb => by
    unfold nameS
    rw [← hps]
    have : (ps.map bs).all partS = false := by
      rw [Bool.eq_false_iff]
      intro ha
      rw [List.all_eq_true.1 ha (bs p) (List.mem_map_of_mem (List.mem_of_getElem? hp))] at hb
      cases hb
    rw [this]; simp
  refine ⟨fun t w' => ∃ a : Nat, t = a ∧ a ≤ ps.length ∧ Ext [] w4 w' ∧ ∀ p ∈ ps.take a, partS (bs p) = true, fun t _ => ps.length - t.toNat, ⟨0, rfl, by omega, Ext.refl _ _, by simp⟩, ?_⟩
  rintro _ _ w5 ⟨a, rfl, ha, e5, hall⟩
  refine sel_dec (fun hlt => when_dec ⟨by omega, by omega⟩ ?_) (fun hge => ?_)
  · obtain ⟨p, hp⟩ : ∃ p, ps[a]? = some p := ⟨_, List.getElem?_eq_getElem (by omega)⟩
    obtain ⟨ad, rfl, hcell⟩ := SL_at (hc.ext0 e5) hp
    have hpl := bs_len p
    have no' : partS (bs p) = false → R (.returned (.bool false)) w5 := fun h => no (bad hp h) w5 (e4.trans e5)
    refine ⟨p, hcell, sel_intro (fun h => no' ?_) (fun h => ?_)⟩
    · rw [beqBytes, decide_eq_true_eq] at h
      subst h; rfl
    have hpos : 1 ≤ p.size := by
      rcases Nat.lt_or_ge p.size 1 with h0 | h0
      · rw [beqBytes, decide_eq_false_iff_not] at h
        exact absurd (bs_inj (by rw [bs_nil h0]; rfl)) h
      · exact h0
    have hp63 : p.size ≤ 63 := by
      have hm : bs p ∈ cutS 46 (bs s) := by rw [← hps]; exact List.mem_map_of_mem (List.mem_of_getElem? hp)
      have : ∀ (l : List UInt8), ∀ q ∈ cutS 46 l, q.length ≤ l.length := by
        intro l
        induction l with
        | nil => intro q hq; simp [cutS] at hq; subst hq; simp
        | cons x r ih =>
          intro q hq
          unfold cutS at hq
          split at hq
          · rcases List.mem_cons.1 hq with rfl | hq
            · simp
            · have := ih q hq; simp; omega
          · split at hq
            · simp at hq; subst hq; simp
            · rename_i u us hu
              rw [hu] at ih
              rcases List.mem_cons.1 hq with rfl | hq
              · have := ih u (by simp); simp; omega
              · have := ih q (by simp [hq]); simp; omega
      have := this _ _ hm
      omega
    have hh := byte_head hpos
    have hla := byte_last hpos
    rw [last_ix hpos hp63, hh, hla]
    refine when_dec ⟨by omega, by omega⟩ (low_c _ ⟨_, rfl, sel_intro (fun hb => no' ?_) (fun hb => when_dec ⟨by omega, by omega⟩ (low_c _ ⟨_, rfl, sel_intro (fun hb2 => no' ?_) (fun hb2 => ?_)⟩))⟩)
    · have : lowU ((bs p).headD 0) = false := nf_ hb
      unfold partS; rw [this]; simp
    · have : lowU ((bs p).getLastD 0) = false := nf_ hb2
      unfold partS; rw [this]; simp
    have e1 : lowU ((bs p).headD 0) = true := nt_ hb
    have e2 : lowU ((bs p).getLastD 0) = true := nt_ hb2
    refine ⟨fun t w' => ∃ i : Nat, t = i ∧ i ≤ p.size ∧ w' = w5 ∧ ∀ x ∈ (bs p).take i, (lowU x || x == 45) = true, fun t _ => p.size - t.toNat, ⟨0, rfl, by omega, rfl, by simp⟩, ?_⟩
    rintro _ _ w9 ⟨i, rfl, hi, hw, hin⟩
    subst hw
    refine sel_dec (fun hlt2 => ?_) (fun hge2 => ?_)
    · obtain ⟨c, hcc, hb3⟩ := byte_get (s := p) (i := i) (by omega)
      rw [hb3]
      have next : (lowU c || c == 45) = true → (fun t w' => ∃ i : Nat, t = (i : Int) ∧ i ≤ p.size ∧ w' = w9 ∧ ∀ x ∈ (bs p).take i, (lowU x || x == 45) = true) (IntKind.wrap .i64 ((i : Int) + 1)) w9 ∧ p.size - (IntKind.wrap .i64 ((i : Int) + 1)).toNat < p.size - ((i : Int)).toNat := fun h => by
        rw [up64 i (by omega)]
        exact ⟨⟨i + 1, rfl, by omega, rfl, all_more hcc h hin⟩, by simp only [Int.toNat_natCast]; omega⟩
      refine when_dec ⟨by omega, by omega⟩ (low_c _ ⟨_, rfl, sel_intro (fun hb4 => when_dec ⟨by omega, by omega⟩ (sel_intro (fun h45 => no' ?_) (fun h45 => ?_))) (fun hb4 => next ?_)⟩)
      · have f1 : lowU c = false := nf_ hb4
        have f2 : (c == 45) = false := by
          rw [beq_eq_false_iff_ne]
          intro e3
          rw [e3] at h45
          exact absurd h45 (by decide)
        unfold partS; rw [all_no hcc (p := fun c => lowU c || c == 45) (by rw [f1, f2]; rfl)]; simp
      · have e3 : (c.toNat : Int) = 45 := by simpa using h45
        have e4 : c = 45 := UInt8.toNat_inj.1 (by show _ = 45; omega)
        exact next (by rw [e4]; simp)
      · rw [show lowU c = true from nt_ hb4]; rfl
    · have hpart : partS (bs p) = true := by
        unfold partS
        rw [e1, e2, all_yes (by omega) hin, decide_eq_true (bs_ne hpos)]; rfl
      rw [up64 a (by omega)]
      refine ⟨⟨a + 1, rfl, by omega, e5, fun q hq => ?_⟩, by simp only [Int.toNat_natCast]; omega⟩
      rw [snoc_at hp] at hq
      simp only [List.mem_append, List.mem_singleton] at hq
      rcases hq with hq | rfl
      · exact hall q hq
      · exact hpart
  · have : nameS (bs s) = true := by
      unfold nameS
      rw [← hps, decide_eq_true (show (bs s).length ≤ 63 by omega), Bool.true_and, List.all_map]
      rw [List.take_of_length_le (by omega)] at hall
      exact List.all_eq_true.2 hall
    have h3 := k w5 (e4.trans e5)
    rw [this] at h3; exact h3
theorem IsKey_c (s : ByteArray) {w : World} (hs : s.size < 4611686018427387904) {R : Ending → World → Prop} (k : ∀ w', Ext [] w w' → R (.returned (.bool (keyS (bs s)))) w') : Calls Tryz.prog 77 #[.string s] w R := by
  apply labels_IsKey_nf
  refine Cut_c s 47 hs (fun h => ⟨_, _, _, rfl, ?_⟩) (fun w1 x y e1 h hx => ⟨_, _, _, rfl, ?_⟩)
  · refine sel_false rfl (isShort_c s ⟨_, rfl, ?_⟩)
    have := k w (Ext.refl _ _)
    unfold keyS at this
    rw [cut1_not h] at this
    exact this
  · have e : keyS (bs s) = (nameS (bs x) && shortS (bs y)) := by
      unfold keyS
      rw [h, cut1_app hx]
    rw [e] at k
    refine sel_true rfl (IsName_c x fun w' e' => ⟨_, rfl, sel_intro (fun hn => isShort_c y ⟨_, rfl, ?_⟩) (fun hn => ?_)⟩)
    · have := k w' (e1.trans e')
      rw [hn] at this; exact this
    · have := k w' (e1.trans e')
      rw [hn] at this; exact this
end Go.Proofs.YtpipenkaaodlgaaGreatDoor
