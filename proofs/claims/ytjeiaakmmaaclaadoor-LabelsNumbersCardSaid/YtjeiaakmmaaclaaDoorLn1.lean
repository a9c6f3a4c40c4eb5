/- Labels: numbers as texts, texts as numbers, values. -/
import Derived.Test.YtjeiaakmmaaclaaDoorNA
import Derived.Test.YtjeiaakmmaaclaaDoorG1
import Derived.Test.YtjeiaakmmaaclaaDoorNum
import Derived.Test.YtjeiaakmmaaclaaDoorSi
import Derived.Shelf.Strconv.Itoa3
set_option linter.unusedVariables false
set_option linter.unusedSimpArgs false
namespace Go.Proofs.YtjeiaakmmaaclaaDoor
open Go Go.V Go.B

theorem tab_ext {F : List Nat} {w w' : World} {name : String} {k : IntKind} {zs : List Int} {g : Nat} (h : Go.Lib.TabIs Tryd.prog w name k zs) (hg : Tryd.prog.globalNamed name = some g) (e : Ext F w w') (hF : g ∉ F) : Go.Lib.TabIs Tryd.prog w' name k zs := by
  unfold Go.Lib.TabIs World.var? at h ⊢
  rw [hg] at h ⊢
  simp only [Option.bind_some] at h ⊢
  have hl : g < w.heap.size := by
    rcases Nat.lt_or_ge g w.heap.size with h1 | h1
    · exact h1
    · rw [Array.getElem?_eq_none h1] at h; cases h
  rw [e.same g hl hF]; exact h
/-- The powers of ten stand. -/
def Pow (w : World) : Prop := Go.Lib.TabIs Tryd.prog w "internal/strconv.uint64pow10" .u64 Go.Lib.pow10Tab
theorem pow_at : ∃ g, Tryd.prog.globalNamed "internal/strconv.uint64pow10" = some g := Option.isSome_iff_exists.1 (by kernel_rfl)
theorem Pow.ext0 {w w' : World} (h : Pow w) (e : Ext [] w w') : Pow w' := by
  obtain ⟨g, hg⟩ := pow_at
  exact tab_ext h hg e (by simp)
theorem Itoa_c {w : World} (hp : Pow w) (i : Int) (h0 : -9223372036854775808 ≤ i) (h1 : i ≤ 9223372036854775807) {R : Ending → World → Prop} (k : ∀ w', Ext [] w w' → R (.returned (.string ⟨(Go.Lib.itoa i).toArray⟩)) w') : Calls Tryd.prog 7 #[.int .i64 i] w R := by
  refine (Any.strconv_Itoa Tryd.lays171 i h0 h1 w hp).mono fun e w' h => ?_
  obtain ⟨rfl, n, os, rfl⟩ := h
  refine k _ ⟨rfl, rfl, rfl, ?_, fun b hb _ => ?_⟩
  · rw [Go.Sort.size_grow]
    exact Nat.le_add_right _ _
  · show ((w.heap ++ os)[b]?) = _
    rw [Array.getElem?_append_left hb]
def lowB (c : Int) : Bool := decide ((97 ≤ c ∧ c ≤ 122) ∨ (48 ≤ c ∧ c ≤ 57))
def wordB (c : Int) : Bool := lowB c || decide (65 ≤ c ∧ c ≤ 90)
def innerB (c : Int) : Bool := wordB c || decide (c = 45 ∨ c = 95 ∨ c = 46)
theorem low_c (c : Int) {w : World} {R : Ending → World → Prop} (k : R (.returned (.bool (lowB c))) w) : Calls Tryd.prog 13 #[.int .u8 c] w R := by
  apply labels_low_nf
  unfold lowB at k
  refine sel_dec (fun h1 => sel_dec (fun h2 => ?_) (fun h2 => sel_dec (fun h3 => ?_) (fun h3 => ?_))) (fun h1 => sel_dec (fun h3 => ?_) (fun h3 => ?_))
  · rw [decide_eq_true (.inl ⟨h1, h2⟩)] at k; exact k
  · rw [decide_eq_false (by omega)] at k; rw [decide_eq_false (by omega)]; exact k
  · omega
  · by_cases h : c ≤ 57
    · rw [decide_eq_true (.inr ⟨h3, h⟩)] at k; rw [decide_eq_true h]; exact k
    · rw [decide_eq_false (by omega)] at k; rw [decide_eq_false h]; exact k
  · rw [decide_eq_false (by omega)] at k; exact k
theorem word_c (c : Int) {w : World} {R : Ending → World → Prop} (k : R (.returned (.bool (wordB c))) w) : Calls Tryd.prog 9 #[.int .u8 c] w R := by
  apply labels_word_nf
  unfold wordB at k
  refine low_c c ⟨_, rfl, sel_intro (fun h => ?_) (fun h => sel_dec (fun h1 => ?_) (fun h1 => ?_))⟩
  · rw [h] at k; exact k
  · rw [h, Bool.false_or] at k
    by_cases h2 : c ≤ 90
    · rw [decide_eq_true ⟨h1, h2⟩] at k; rw [decide_eq_true h2]; exact k
    · rw [decide_eq_false (by omega)] at k; rw [decide_eq_false h2]; exact k
  · rw [h, Bool.false_or, decide_eq_false (by omega)] at k; exact k
theorem inner_c (c : Int) {w : World} {R : Ending → World → Prop} (k : R (.returned (.bool (innerB c))) w) : Calls Tryd.prog 10 #[.int .u8 c] w R := by
  apply labels_inner_nf
  unfold innerB at k
  refine word_c c ⟨_, rfl, sel_intro (fun h => ?_) (fun h => ?_)⟩
  · rw [h] at k; exact k
  rw [h, Bool.false_or] at k
  refine sel_intro (fun h1 => ?_) (fun h1 => sel_intro (fun h2 => ?_) (fun h2 => ?_))
  · have h1 : c = 45 := by simpa using h1
    rw [decide_eq_true (.inl h1)] at k; exact k
  · have h2 : c = 95 := by simpa using h2
    rw [decide_eq_true (.inr (.inl h2))] at k; exact k
  · have h1 : c ≠ 45 := by simpa using h1
    have h2 : c ≠ 95 := by simpa using h2
    by_cases h3 : c = 46
    · rw [decide_eq_true (.inr (.inr h3))] at k
      rw [h3]; exact k
    · rw [decide_eq_false (by omega)] at k
      rw [show (c == 46) = false by simpa using h3]; exact k
/-- What makes a text a value that is not empty. -/
structure ValOk (s : ByteArray) : Prop where
  pos : 1 ≤ s.size
  len : s.size ≤ 63
  last : wordB (byteAt s ((s.size - 1 : Nat) : Int)) = true
  first : wordB (byteAt s 0) = true ∨ byteAt s 0 = 45
  inn : ∀ i : Nat, i < s.size → innerB (byteAt s i) = true
theorem beq_empty {s : ByteArray} (h : 1 ≤ s.size) : (ByteArray.toList s == ByteArray.toList ByteArray.empty) = false := by
  rw [beqBytes]
  refine decide_eq_false fun e => ?_
  rw [e] at h
  have : ByteArray.empty.size = 0 := rfl
  omega
theorem IsValue_c {s : ByteArray} (v : ValOk s) {w : World} {R : Ending → World → Prop} (k : R (.returned (.bool true)) w) : Calls Tryd.prog 6 #[.string s] w R := by
  have h0 := v.pos
  have h1 := v.len
  apply labels_IsValue_nf
  have e1 : IntKind.wrap .i64 (((s.size : Nat) : Int) - 1) = ((s.size - 1 : Nat) : Int) := by rw [w64 (by omega) (by omega)]; omega
  refine sel_false (beq_empty h0) (sel_dec (fun h => by omega) (fun _ => ?_))
  rw [e1]
  refine when_dec ⟨by omega, by omega⟩ (word_c _ ⟨_, rfl, sel_false (by rw [v.last]; rfl) (when_dec ⟨by omega, by omega⟩ (word_c _ ⟨_, rfl, sel_intro (fun h => when_dec ⟨by omega, by omega⟩ (sel_false ?_ ?_)) (fun h => ?_)⟩))⟩)
  · have h : wordB (byteAt s 0) = false := by simpa using h
    rcases v.first with h2 | h2
    · rw [h] at h2; cases h2
    · rw [h2]; rfl
  all_goals
    refine ⟨fun t w' => ∃ a : Nat, t = a ∧ a ≤ s.size ∧ w' = w, fun t _ => s.size - t.toNat, ⟨0, rfl, by omega, rfl⟩, ?_⟩
    rintro _ _ _ ⟨a, rfl, ha, rfl⟩
    refine sel_dec (fun hlt => when_dec ⟨by omega, by omega⟩ (inner_c _ ⟨_, rfl, sel_false (by rw [v.inn a (by omega)]; rfl) ?_⟩)) (fun _ => k)
    rw [up64 a (by omega)]
    exact ⟨⟨a + 1, rfl, by omega, rfl⟩, by simp only [Int.toNat_natCast]; omega⟩
theorem size_list (s : ByteArray) : s.data.toList.length = s.size := Array.length_toList
theorem byteAt_get {s : ByteArray} {i : Nat} {c : UInt8} (h : s.data.toList[i]? = some c) : byteAt s (i : Int) = (c.toNat : Int) := by
  unfold byteAt
  rw [Int.toNat_natCast, List.getD_eq_getElem?_getD, h]; rfl
theorem HasMinus_c {s : ByteArray} {w : World} {R : Ending → World → Prop} (k : R (.returned (.bool (decide (s.data.toList.head? = some 45)))) w) : Calls Tryd.prog 15 #[.string s, .string ⟨#[45]⟩] w R := by
  apply internal_stringslite_HasPrefix_nf
  have e1 : (⟨#[45]⟩ : ByteArray).size = 1 := rfl
  rw [e1]
  have hl := size_list s
  refine sel_dec (fun h => when_dec ⟨by omega, by omega⟩ ?_) (fun h => ?_)
  · rw [beqBytes]
    have : (s.extract 0 1 = (⟨#[45]⟩ : ByteArray)) ↔ s.data.toList.head? = some 45 := by
      have hx : (s.extract 0 1).data.toList = s.data.toList.take 1 := by simp only [ByteArray.data_extract, Array.toList_extract, List.extract_eq_take_drop, Nat.sub_zero, List.drop_zero]
      constructor
      · intro e
        rw [e] at hx
        have : (⟨#[45]⟩ : ByteArray).data.toList = [45] := rfl
        rw [this] at hx
        match hq : s.data.toList, hx with
        | c :: r, hx => simp at hx; rw [← hx]; rfl
      · intro e
        refine Go.WideShapes.bytes_inj ?_
        rw [hx]
        match hq : s.data.toList, e with
        | c :: r, e => simp at e; rw [e]; rfl
    rw [decide_eq_decide.2 this]; exact k
  · have : s.data.toList = [] := List.length_eq_zero_iff.1 (by omega)
    rw [this] at k
    exact k
theorem Trim_c {s : ByteArray} {w : World} {R : Ending → World → Prop} (k : ∀ d : ByteArray, d.data.toList = digitsOf s.data.toList → R (.returned (.string d)) w) : Calls Tryd.prog 8 #[.string s, .string ⟨#[45]⟩] w R := by
  apply strings_TrimPrefix_nf
  apply internal_stringslite_TrimPrefix_nf
  have e1 : (⟨#[45]⟩ : ByteArray).size = 1 := rfl
  have hl := size_list s
  refine HasMinus_c ⟨_, rfl, sel_dec (fun h => ?_) (fun h => ?_)⟩
  · obtain ⟨r, hr⟩ : ∃ r, s.data.toList = 45 :: r := by
      match hq : s.data.toList, h with
      | c :: r, h => simp at h; rw [h]; exact ⟨r, rfl⟩
    have : 1 ≤ s.size := by rw [← hl, hr]; simp
    rw [e1]
    refine when_dec ⟨by omega, by omega⟩ ⟨_, rfl, k _ ?_⟩
    rw [hr, digits_neg]
    have hx : (s.extract 1 s.size).data.toList = (s.data.toList.drop 1).take (s.size - 1) := by simp only [ByteArray.data_extract, Array.toList_extract, List.extract_eq_take_drop]
    rw [hx, List.take_of_length_le (by rw [List.length_drop]; omega), hr]
    rfl
  · exact ⟨_, rfl, k s (digits_pos h).symm⟩
theorem Int_c (s : ByteArray) {w : World} {R : Ending → World → Prop} (k0 : intOf s.data.toList = none → R (.returned (.tuple #[.int .i64 0, .bool false])) w) (k1 : ∀ v, intOf s.data.toList = some v → R (.returned (.tuple #[.int .i64 v, .bool true])) w) :
    Calls Tryd.prog 5 #[.string s] w R := by
  apply labels_Int_nf
  refine Trim_c fun d hd => ⟨_, rfl, ?_⟩
  obtain ⟨ds, hds⟩ : ∃ ds, ds = d.data.toList := ⟨_, rfl⟩
  have hld : ds.length = d.size := by rw [hds]; exact size_list d
  have hls := size_list s
  unfold intOf at k0 k1
  rw [← hd, ← hds] at k0 k1
  refine sel_dec (fun h => k0 (by rw [if_pos (.inl (by omega))])) (fun h1 => sel_dec (fun h => k0 (by rw [if_pos (.inr (by omega))])) (fun h2 => ?_))
  rw [if_neg (by omega)] at k0 k1
  have at_ : ∀ i : Nat, i < ds.length → ∃ c, ds[i]? = some c ∧ byteAt d (i : Int) = (c.toNat : Int) := fun i hi => by
    refine ⟨ds[i], List.getElem?_eq_getElem hi, byteAt_get ?_⟩
    rw [← hds]
    exact List.getElem?_eq_getElem hi
  have pow : ∀ a : Nat, a ≤ 15 → (10 : Nat) ^ a ≤ 1000000000000000 := fun a ha => Nat.le_trans (Nat.pow_le_pow_right (by omega) ha) (by decide)
  refine ⟨fun n t w' => ∃ a : Nat, t = a ∧ a ≤ ds.length ∧ w' = w ∧ (∀ c ∈ ds.take a, isD c = true) ∧ n = (dval (ds.take a) : Int), fun _ t _ => ds.length - t.toNat, ⟨0, rfl, by omega, rfl, by simp, by simp [dval]⟩, ?_⟩
  rintro _ _ _ w9 ⟨a, rfl, ha, hw, had, rfl⟩
  subst hw
  have hlt := dval_lt a (ds.take a) (by simp; omega) had
  have hpa := pow a (by omega)
  refine sel_dec (fun hl => ?_) (fun hl => ?_)
  · obtain ⟨c, hc, hb⟩ := at_ a (by omega)
    have hcm := List.mem_of_getElem? hc
    have bad : isD c = false → R (.returned (.tuple #[.int .i64 0, .bool false])) w9 := fun hf => k0 (by
      rw [if_pos]
      rw [Bool.eq_false_iff]
      intro hall
      rw [List.all_eq_true.1 hall c hcm] at hf
      cases hf)
    rw [hb]
    refine when_dec ⟨by omega, by omega⟩ (sel_dec (fun h => bad (by unfold isD; exact decide_eq_false (by omega))) (fun h3 => when_dec ⟨by omega, by omega⟩ (sel_dec (fun h => bad (by unfold isD; exact decide_eq_false (by omega))) (fun h4 => when_dec ⟨by omega, by omega⟩ ?_))))
    have hD : isD c = true := by unfold isD; exact decide_eq_true (by omega)
    have hval : IntKind.wrap .i64 (IntKind.wrap .i64 (10 * (dval (ds.take a) : Int)) + IntKind.wrap .i64 (IntKind.wrap .u8 ((c.toNat : Int) - 48))) = (dval (ds.take (a + 1)) : Int) := by
      have eu : IntKind.wrap .u8 ((c.toNat : Int) - 48) = (c.toNat : Int) - 48 := by
        rw [IntKind.wrap_u8]
        omega
      rw [eu, w64 (x := 10 * (dval (ds.take a) : Int)) (by omega) (by omega), w64 (x := (c.toNat : Int) - 48) (by omega) (by omega), w64 (by omega) (by omega), snoc_at hc, dval_snoc]
      omega
    refine lt_eq hval ?_
    rw [up64 a (by omega)]
    refine ⟨⟨a + 1, rfl, by omega, rfl, fun y hy => ?_, rfl⟩, by simp only [Int.toNat_natCast]; omega⟩
    rw [snoc_at hc] at hy
    simp only [List.mem_append, List.mem_singleton] at hy
    rcases hy with hy | rfl
    · exact had y hy
    · exact hD
  · have hfull : ds.take a = ds := List.take_of_length_le (by omega)
    rw [hfull] at had hlt ⊢
    rw [if_neg (by rw [List.all_eq_true.2 had]; simp)] at k0 k1
    obtain ⟨c, hc, hb⟩ := at_ 0 (by omega)
    have hb : byteAt d 0 = (c.toNat : Int) := hb
    have hhead : ds.headD 0 = c := by
      match ds, hc with
      | x :: r, hc => simp at hc; subst hc; rfl
    rw [hb]
    rw [hhead, hld, hls] at k0 k1
    have e0 : IntKind.wrap .i64 (0 - (dval ds : Int)) = -(dval ds : Int) := by rw [w64 (by omega) (by omega)]; omega
    have fin : ¬ (c = 48 ∧ s.data.toList ≠ [48]) → V.sel (decide (((ByteArray.size d : Nat) : Int) < ((ByteArray.size s : Nat) : Int)))
        (R (Ending.returned (Value.tuple #[(Value.int .i64 (IntKind.wrap .i64 (0 - (dval ds : Int)))), (Value.bool true)])) w9)
        (R (Ending.returned (Value.tuple #[(Value.int .i64 (dval ds : Int)), (Value.bool true)])) w9) := fun hno => by
      rw [if_neg hno] at k1
      rw [e0]
      refine sel_dec (fun h => ?_) (fun h => ?_)
      · rw [if_pos (by omega)] at k1; exact k1 _ rfl
      · rw [if_neg (by omega)] at k1; exact k1 _ rfl
    refine when_dec ⟨by omega, by omega⟩ (sel_intro (fun h5 => ?_) (fun h5 => fin ?_))
    · have h5 : (c.toNat : Int) = 48 := by simpa using h5
      have hc48 : c = 48 := u8_ext (by show c.toNat = 48; omega)
      refine sel_intro (fun h6 => k0 ?_) (fun h6 => fin ?_)
      · rw [beqBytes, Bool.not_eq_true', decide_eq_false_iff_not] at h6
        have hne : s.data.toList ≠ [48] := fun e => h6 (Go.WideShapes.bytes_inj e)
        rw [if_pos ⟨hc48, hne⟩]
      · rw [beqBytes, Bool.not_eq_false', decide_eq_true_eq] at h6
        rintro ⟨_, h7⟩
        exact h7 (by rw [h6])
    · rintro ⟨rfl, _⟩
      simp at h5
theorem IntText_c {w : World} (hp : Pow w) (n : Int) {R : Ending → World → Prop} (k0 : ¬ (-999999999999999 ≤ n ∧ n ≤ 999999999999999) → R (.returned (.tuple #[.string ByteArray.empty, .bool false])) w)
    (k1 : ∀ w', Ext [] w w' → -999999999999999 ≤ n ∧ n ≤ 999999999999999 → R (.returned (.tuple #[.string ⟨(Go.Lib.itoa n).toArray⟩, .bool true])) w') : Calls Tryd.prog 4 #[.int .i64 n] w R := by
  apply labels_IntText_nf
  refine sel_dec (fun h => k0 (by omega)) (fun h1 => sel_dec (fun h => k0 (by omega)) (fun h2 => ?_))
  exact Itoa_c hp n (by omega) (by omega) fun w' e => ⟨_, rfl, k1 w' e ⟨by omega, by omega⟩⟩
theorem dig_word {c : UInt8} (h : isD c = true) : wordB (c.toNat : Int) = true := by
  have := isD_b h
  unfold wordB lowB
  rw [decide_eq_true (.inr ⟨by omega, by omega⟩)]; rfl
theorem itoa_ok {n : Int} (h : -999999999999999 ≤ n ∧ n ≤ 999999999999999) : ValOk ⟨(Go.Lib.itoa n).toArray⟩ := by
  obtain ⟨l, hl⟩ : ∃ l, l = Go.Lib.itoa n := ⟨_, rfl⟩
  have hform : ∃ u : Nat, u ≤ 999999999999999 ∧ (l = 45 :: Go.Lib.decDigits u ∨ l = Go.Lib.decDigits u) := by
    rw [hl]
    unfold Go.Lib.itoa
    split
    · exact ⟨n.natAbs, by omega, .inl rfl⟩
    · exact ⟨n.toNat, by omega, .inr rfl⟩
  obtain ⟨u, hu, hform⟩ := hform
  have hdl : (Go.Lib.decDigits u).length = Go.Lib.nDigits u := Go.Lib.decDigits_length u
  have hd1 := Go.Lib.nDigits_pos u
  have hd2 := nDigits_le 14 u (by omega)
  have hdig := dec_digit u
  rw [← hl]
  have hsz : (⟨l.toArray⟩ : ByteArray).size = l.length := by simp [ByteArray.size]
  have hlen : 1 ≤ l.length ∧ l.length ≤ 16 := by
    rcases hform with rfl | rfl
    · simp; omega
    · omega
  have get : ∀ {i : Nat} {c : UInt8}, l[i]? = some c → byteAt ⟨l.toArray⟩ (i : Int) = (c.toNat : Int) := fun h => byteAt_get (by simpa using h)
  have any : ∀ (i : Nat) (c : UInt8), l[i]? = some c → isD c = true ∨ (i = 0 ∧ c = 45) := fun i c hc => by
    rcases hform with rfl | rfl
    · cases i with
      | zero => simp at hc; exact .inr ⟨rfl, hc.symm⟩
      | succ i => exact .inl (hdig c (List.mem_of_getElem? (by simpa using hc)))
    · exact .inl (hdig c (List.mem_of_getElem? hc))
  have has : ∀ i : Nat, i < l.length → ∃ c, l[i]? = some c := fun i hi => ⟨l[i], List.getElem?_eq_getElem hi⟩
  refine ⟨by omega, by omega, ?_, ?_, fun i hi => ?_⟩
  · rw [hsz]
    obtain ⟨c, hc⟩ := has (l.length - 1) (by omega)
    rw [get hc]
    rcases any _ c hc with h1 | ⟨h1, h2⟩
    · exact dig_word h1
    · exfalso
      rcases hform with rfl | rfl
      · simp at h1; rw [h1] at hdl; simp at hdl; omega
      · have h3 := isD_b (hdig c (List.mem_of_getElem? hc))
        rw [h2] at h3
        have : (45 : UInt8).toNat = 45 := rfl
        omega
  · obtain ⟨c, hc⟩ := has 0 (by omega)
    have hg := get hc
    have hg : byteAt ⟨l.toArray⟩ 0 = (c.toNat : Int) := hg
    rw [hg]
    rcases any _ c hc with h1 | ⟨h1, h2⟩
    · exact .inl (dig_word h1)
    · exact .inr (by rw [h2]; rfl)
  · rw [hsz] at hi
    obtain ⟨c, hc⟩ := has i hi
    rw [get hc]
    unfold innerB
    rcases any _ c hc with h1 | ⟨h1, h2⟩
    · rw [dig_word h1]; rfl
    · rw [h2]; decide
end Go.Proofs.YtjeiaakmmaaclaaDoor
