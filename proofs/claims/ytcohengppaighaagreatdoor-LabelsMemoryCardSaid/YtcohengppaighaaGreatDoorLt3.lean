/- Labels: numbers as texts, texts as numbers: the program's and the document's. -/
import Derived.Test.YtcohengppaighaaGreatDoorLt2
import Derived.Test.YtcohengppaighaaGreatDoorNum
import Derived.Test.YtcohengppaighaaGreatDoorSi
import Derived.Shelf.Strconv.Itoa3
import Derived.Lib.SlBytesRow
set_option linter.unusedVariables false
set_option linter.unusedSimpArgs false
namespace Go.Proofs.YtcohengppaighaaGreatDoor
open Go Go.V Go.B

theorem tab_ext {F : List Nat} {w w' : World} {name : String} {k : IntKind} {zs : List Int} {g : Nat} (h : Go.Lib.TabIs Tryz.prog w name k zs) (hg : Tryz.prog.globalNamed name = some g) (e : Ext F w w') (hF : g ∉ F) : Go.Lib.TabIs Tryz.prog w' name k zs := by
  unfold Go.Lib.TabIs World.var? at h ⊢
  rw [hg] at h ⊢
  simp only [Option.bind_some] at h ⊢
  have hl : g < w.heap.size := by
    rcases Nat.lt_or_ge g w.heap.size with h1 | h1
    · exact h1
    · rw [Array.getElem?_eq_none h1] at h; cases h
  rw [e.same g hl hF]; exact h
/-- The powers of ten stand. -/
def Pow (w : World) : Prop := Go.Lib.TabIs Tryz.prog w "internal/strconv.uint64pow10" .u64 Go.Lib.pow10Tab
theorem pow_at : ∃ g, Tryz.prog.globalNamed "internal/strconv.uint64pow10" = some g := Option.isSome_iff_exists.1 (by kernel_rfl)
theorem Pow.ext0 {w w' : World} (h : Pow w) (e : Ext [] w w') : Pow w' := by
  obtain ⟨g, hg⟩ := pow_at
  exact tab_ext h hg e (by simp)
theorem Itoa_c {w : World} (hp : Pow w) (i : Int) (h0 : -9223372036854775808 ≤ i) (h1 : i ≤ 9223372036854775807) {R : Ending → World → Prop} (k : ∀ w', Ext [] w w' → R (.returned (.string ⟨(Go.Lib.itoa i).toArray⟩)) w') : Calls Tryz.prog 93 #[.int .i64 i] w R := by
  refine (Any.strconv_Itoa Tryz.lays171 i h0 h1 w hp).mono fun e w' h => ?_
  obtain ⟨rfl, n, os, rfl⟩ := h
  refine k _ ⟨rfl, rfl, rfl, ?_, fun b hb _ => ?_⟩
  · rw [Go.Sort.size_grow]
    exact Nat.le_add_right _ _
  · show ((w.heap ++ os)[b]?) = _
    rw [Array.getElem?_append_left hb]
theorem size_list (s : ByteArray) : s.data.toList.length = s.size := Array.length_toList
theorem byteAt_get {s : ByteArray} {i : Nat} {c : UInt8} (h : s.data.toList[i]? = some c) : byteAt s (i : Int) = (c.toNat : Int) := by
  unfold byteAt
  rw [Int.toNat_natCast, List.getD_eq_getElem?_getD, h]; rfl
theorem HasMinus_c {s : ByteArray} {w : World} {R : Ending → World → Prop} (k : R (.returned (.bool (decide (s.data.toList.head? = some 45)))) w) : Calls Tryz.prog 132 #[.string s, .string ⟨#[45]⟩] w R := by
  apply internal_stringslite_HasPrefix_nf
  have e1 : (⟨#[45]⟩ : ByteArray).size = 1 := rfl
  rw [e1]
  have hl := size_list s
  refine sel_dec (fun h => when_dec ⟨by omega, by omega⟩ ?_) (fun h => ?_)
  · rw [beqBytes]
    have : (s.extract 0 1 = (⟨#[45]⟩ : ByteArray)) ↔ s.data.toList.head? = some 45 := by
      have hx : (s.extract 0 1).data.toList = s.data.toList.take 1 := by simp only [ByteArray.data_extract, Array.toList_extract, List.extract_eq_take_drop, Nat.sub_zero, List.drop_zero]
      constructor
      · intro e
        rw [e] at hx
        have : (⟨#[45]⟩ : ByteArray).data.toList = [45] := rfl
        rw [this] at hx
        match hq : s.data.toList, hx with
        | c :: r, hx => simp at hx; rw [← hx]; rfl
      · intro e
        refine Go.WideShapes.bytes_inj ?_
        rw [hx]
        match hq : s.data.toList, e with
        | c :: r, e => simp at e; rw [e]; rfl
    rw [decide_eq_decide.2 this]; exact k
  · have : s.data.toList = [] := List.length_eq_zero_iff.1 (by omega)
    rw [this] at k
    exact k
theorem Trim_c {s : ByteArray} {w : World} {R : Ending → World → Prop} (k : ∀ d : ByteArray, d.data.toList = digitsOf s.data.toList → R (.returned (.string d)) w) : Calls Tryz.prog 92 #[.string s, .string ⟨#[45]⟩] w R := by
  apply strings_TrimPrefix_nf
  apply internal_stringslite_TrimPrefix_nf
  have e1 : (⟨#[45]⟩ : ByteArray).size = 1 := rfl
  have hl := size_list s
  refine HasMinus_c ⟨_, rfl, sel_dec (fun h => ?_) (fun h => ?_)⟩
  · obtain ⟨r, hr⟩ : ∃ r, s.data.toList = 45 :: r := by
      match hq : s.data.toList, h with
      | c :: r, h => simp at h; rw [h]; exact ⟨r, rfl⟩
    have : 1 ≤ s.size := by rw [← hl, hr]; simp
    rw [e1]
    refine when_dec ⟨by omega, by omega⟩ ⟨_, rfl, k _ ?_⟩
    rw [hr, digits_neg]
    have hx : (s.extract 1 s.size).data.toList = (s.data.toList.drop 1).take (s.size - 1) := by simp only [ByteArray.data_extract, Array.toList_extract, List.extract_eq_take_drop]
    rw [hx, List.take_of_length_le (by rw [List.length_drop]; omega), hr]
    rfl
  · exact ⟨_, rfl, k s (digits_pos h).symm⟩
theorem Int_c (s : ByteArray) {w : World} {R : Ending → World → Prop} (k0 : Go.B.intOf s.data.toList = none → R (.returned (.tuple #[.int .i64 0, .bool false])) w) (k1 : ∀ v, Go.B.intOf s.data.toList = some v → R (.returned (.tuple #[.int .i64 v, .bool true])) w) :
    Calls Tryz.prog 65 #[.string s] w R := by
  apply labels_Int_nf
  refine Trim_c fun d hd => ⟨_, rfl, ?_⟩
  obtain ⟨ds, hds⟩ : ∃ ds, ds = d.data.toList := ⟨_, rfl⟩
  have hld : ds.length = d.size := by rw [hds]; exact size_list d
  have hls := size_list s
  unfold Go.B.intOf at k0 k1
  rw [← hd, ← hds] at k0 k1
  refine sel_dec (fun h => k0 (by rw [if_pos (.inl (by omega))])) (fun h1 => sel_dec (fun h => k0 (by rw [if_pos (.inr (by omega))])) (fun h2 => ?_))
  rw [if_neg (by omega)] at k0 k1
  have at_ : ∀ i : Nat, i < ds.length → ∃ c, ds[i]? = some c ∧ byteAt d (i : Int) = (c.toNat : Int) := fun i hi => by
    refine ⟨ds[i], List.getElem?_eq_getElem hi, byteAt_get ?_⟩
    rw [← hds]
    exact List.getElem?_eq_getElem hi
  have pow : ∀ a : Nat, a ≤ 15 → (10 : Nat) ^ a ≤ 1000000000000000 := fun a ha => Nat.le_trans (Nat.pow_le_pow_right (by omega) ha) (by decide)
  refine ⟨fun n t w' => ∃ a : Nat, t = a ∧ a ≤ ds.length ∧ w' = w ∧ (∀ c ∈ ds.take a, isD c = true) ∧ n = (dval (ds.take a) : Int), fun _ t _ => ds.length - t.toNat, ⟨0, rfl, by omega, rfl, by simp, by simp [dval]⟩, ?_⟩
  rintro _ _ _ w9 ⟨a, rfl, ha, hw, had, rfl⟩
  subst hw
  have hlt := dval_lt a (ds.take a) (by simp; omega) had
  have hpa := pow a (by omega)
  refine sel_dec (fun hl => ?_) (fun hl => ?_)
  · obtain ⟨c, hc, hb⟩ := at_ a (by omega)
    have hcm := List.mem_of_getElem? hc
    have bad : isD c = false → R (.returned (.tuple #[.int .i64 0, .bool false])) w9 := fun hf => k0 (by
      rw [if_pos]
      rw [Bool.eq_false_iff]
      intro hall
      rw [List.all_eq_true.1 hall c hcm] at hf
      cases hf)
    rw [hb]
    refine when_dec ⟨by omega, by omega⟩ (sel_dec (fun h => bad (by unfold isD; exact decide_eq_false (by omega))) (fun h3 => when_dec ⟨by omega, by omega⟩ (sel_dec (fun h => bad (by unfold isD; exact decide_eq_false (by omega))) (fun h4 => when_dec ⟨by omega, by omega⟩ ?_))))
    have hD : isD c = true := by unfold isD; exact decide_eq_true (by omega)
    have hval : IntKind.wrap .i64 (IntKind.wrap .i64 (10 * (dval (ds.take a) : Int)) + IntKind.wrap .i64 (IntKind.wrap .u8 ((c.toNat : Int) - 48))) = (dval (ds.take (a + 1)) : Int) := by
      have eu : IntKind.wrap .u8 ((c.toNat : Int) - 48) = (c.toNat : Int) - 48 := by
        rw [IntKind.wrap_u8]
        omega
      rw [eu, w64 (x := 10 * (dval (ds.take a) : Int)) (by omega) (by omega), w64 (x := (c.toNat : Int) - 48) (by omega) (by omega), w64 (by omega) (by omega), snoc_at hc, dval_snoc]
      omega
    refine lt_eq hval ?_
    rw [up64 a (by omega)]
    refine ⟨⟨a + 1, rfl, by omega, rfl, fun y hy => ?_, rfl⟩, by simp only [Int.toNat_natCast]; omega⟩
    rw [snoc_at hc] at hy
    simp only [List.mem_append, List.mem_singleton] at hy
    rcases hy with hy | rfl
    · exact had y hy
    · exact hD
  · have hfull : ds.take a = ds := List.take_of_length_le (by omega)
    rw [hfull] at had hlt ⊢
    rw [if_neg (by rw [List.all_eq_true.2 had]; simp)] at k0 k1
    obtain ⟨c, hc, hb⟩ := at_ 0 (by omega)
    have hb : byteAt d 0 = (c.toNat : Int) := hb
    have hhead : ds.headD 0 = c := by
      match ds, hc with
      | x :: r, hc => simp at hc; subst hc; rfl
    rw [hb]
    rw [hhead, hld, hls] at k0 k1
    have e0 : IntKind.wrap .i64 (0 - (dval ds : Int)) = -(dval ds : Int) := by rw [w64 (by omega) (by omega)]; omega
    have fin : ¬ (c = 48 ∧ s.data.toList ≠ [48]) → V.sel (decide (((ByteArray.size d : Nat) : Int) < ((ByteArray.size s : Nat) : Int)))
        (R (Ending.returned (Value.tuple #[(Value.int .i64 (IntKind.wrap .i64 (0 - (dval ds : Int)))), (Value.bool true)])) w9)
        (R (Ending.returned (Value.tuple #[(Value.int .i64 (dval ds : Int)), (Value.bool true)])) w9) := fun hno => by
      rw [if_neg hno] at k1
      rw [e0]
      refine sel_dec (fun h => ?_) (fun h => ?_)
      · rw [if_pos (by omega)] at k1; exact k1 _ rfl
      · rw [if_neg (by omega)] at k1; exact k1 _ rfl
    refine when_dec ⟨by omega, by omega⟩ (sel_intro (fun h5 => ?_) (fun h5 => fin ?_))
    · have h5 : (c.toNat : Int) = 48 := by simpa using h5
      have hc48 : c = 48 := u8_ext (by show c.toNat = 48; omega)
      refine sel_intro (fun h6 => k0 ?_) (fun h6 => fin ?_)
      · rw [beqBytes, Bool.not_eq_true', decide_eq_false_iff_not] at h6
        have hne : s.data.toList ≠ [48] := fun e => h6 (Go.WideShapes.bytes_inj e)
        rw [if_pos ⟨hc48, hne⟩]
      · rw [beqBytes, Bool.not_eq_false', decide_eq_true_eq] at h6
        rintro ⟨_, h7⟩
        exact h7 (by rw [h6])
    · rintro ⟨rfl, _⟩
      simp at h5
theorem IntText_c {w : World} (hp : Pow w) (n : Int) {R : Ending → World → Prop} (k0 : ¬ (-999999999999999 ≤ n ∧ n ≤ 999999999999999) → R (.returned (.tuple #[.string ByteArray.empty, .bool false])) w)
    (k1 : ∀ w', Ext [] w w' → -999999999999999 ≤ n ∧ n ≤ 999999999999999 → R (.returned (.tuple #[.string ⟨(Go.Lib.itoa n).toArray⟩, .bool true])) w') : Calls Tryz.prog 67 #[.int .i64 n] w R := by
  apply labels_IntText_nf
  refine sel_dec (fun h => k0 (by omega)) (fun h1 => sel_dec (fun h => k0 (by omega)) (fun h2 => ?_))
  exact Itoa_c hp n (by omega) (by omega) fun w' e => ⟨_, rfl, k1 w' e ⟨by omega, by omega⟩⟩
theorem intOf_pos {v : List UInt8} (h : v.head? ≠ some 45) : Go.B.intOf v = if v.length < 1 ∨ 15 < v.length then none else if v.all isD = false then none else if v.headD 0 = 48 ∧ v ≠ [48] then none else some (dval v : Int) := by
  unfold Go.B.intOf
  rw [digits_pos h, if_neg (Nat.lt_irrefl _)]
theorem intOf_neg (r : List UInt8) : Go.B.intOf (45 :: r) = if r.length < 1 ∨ 15 < r.length then none else if r.all isD = false then none else if r.headD 0 = 48 then none else some (-(dval r : Int)) := by
  unfold Go.B.intOf
  rw [digits_neg]
  have h1 : (r.headD 0 = 48 ∧ (45 :: r : List UInt8) ≠ [48]) ↔ r.headD 0 = 48 := ⟨And.left, fun h => ⟨h, by simp⟩⟩
  have h2 : r.length < (45 :: r : List UInt8).length := by simp
  simp only [h1, if_pos h2]
/-- The loop over the digits. -/
theorem digs_c (d : ByteArray) {w : World} {R : Ending → World → Prop} {T1 T2 : Int → World → Prop}
    (bad : ((bs d).length < 1 ∨ 15 < (bs d).length) ∨ (bs d).all isD = false → R (.returned (.tuple #[.int .i64 0, .bool false])) w)
    (k1 : ¬ ((bs d).length < 1 ∨ 15 < (bs d).length) → (bs d).all isD = true → (bs d).headD 0 = 48 → T1 (dval (bs d) : Int) w)
    (k2 : ¬ ((bs d).length < 1 ∨ 15 < (bs d).length) → (bs d).all isD = true → (bs d).headD 0 ≠ 48 → T2 (dval (bs d) : Int) w) :
    (V.sel (decide (((ByteArray.size d : Nat) : Int) < 1))
    (R (Ending.returned (Value.tuple #[(Value.int .i64 0), (Value.bool false)])) w)
    (V.sel (decide (((ByteArray.size d : Nat) : Int) > 15))
    (R (Ending.returned (Value.tuple #[(Value.int .i64 0), (Value.bool false)])) w)
    (∃ I2 : Int → Int → World → Prop, ∃ μ3 : Int → Int → World → Nat, I2 0 0 w ∧
    ∀ n_4 i_5 (j6 : Nat → Value) (w7 : World), I2 n_4 i_5 w7 →
    (V.sel (decide (i_5 < ((ByteArray.size d : Nat) : Int)))
    (V.when (decide ((0 : Int) ≤ i_5 ∧ (i_5 : Int) < ((ByteArray.size d : Nat) : Int))) (V.sel (decide ((V.byteAt d i_5) < 48))
    (R (Ending.returned (Value.tuple #[(Value.int .i64 0), (Value.bool false)])) w7)
    (V.when (decide ((0 : Int) ≤ i_5 ∧ (i_5 : Int) < ((ByteArray.size d : Nat) : Int))) (V.sel (decide ((V.byteAt d i_5) > 57))
    (R (Ending.returned (Value.tuple #[(Value.int .i64 0), (Value.bool false)])) w7)
    (V.when (decide ((0 : Int) ≤ i_5 ∧ (i_5 : Int) < ((ByteArray.size d : Nat) : Int))) (V.lt (IntKind.wrap .i64 ((IntKind.wrap .i64 (10 * n_4)) + (IntKind.wrap .i64 ((IntKind.wrap .u8 ((V.byteAt d i_5) - 48)))))) fun x8 =>
    I2 x8 (IntKind.wrap .i64 (i_5 + 1)) w7 ∧ μ3 x8 (IntKind.wrap .i64 (i_5 + 1)) w7 < μ3 n_4 i_5 w7))))))
    (V.when (decide ((0 : Int) ≤ 0 ∧ (0 : Int) < ((ByteArray.size d : Nat) : Int))) (V.sel ((V.byteAt d 0) == 48) (T1 n_4 w7) (T2 n_4 w7))))))) := by
  obtain ⟨ds, hds⟩ : ∃ ds, ds = bs d := ⟨_, rfl⟩
  have hld : ds.length = d.size := by rw [hds]; exact size_list d
  rw [← hds] at bad k1 k2
  refine sel_dec (fun h => bad (.inl (.inl (by omega)))) (fun h1 => sel_dec (fun h => bad (.inl (.inr (by omega)))) (fun h2 => ?_))
  have at_ : ∀ i : Nat, i < ds.length → ∃ c, ds[i]? = some c ∧ byteAt d (i : Int) = (c.toNat : Int) := fun i hi => by
    refine ⟨ds[i], List.getElem?_eq_getElem hi, byteAt_get ?_⟩
    have : d.data.toList = ds := hds.symm
    rw [this]
    exact List.getElem?_eq_getElem hi
  have pow : ∀ a : Nat, a ≤ 15 → (10 : Nat) ^ a ≤ 1000000000000000 := fun a ha => Nat.le_trans (Nat.pow_le_pow_right (by omega) ha) (by decide)
  refine ⟨fun n t w' => ∃ a : Nat, t = a ∧ a ≤ ds.length ∧ w' = w ∧ (∀ c ∈ ds.take a, isD c = true) ∧ n = (dval (ds.take a) : Int), fun _ t _ => ds.length - t.toNat, ⟨0, rfl, by omega, rfl, by simp, by simp [dval]⟩, ?_⟩
  rintro _ _ _ w9 ⟨a, rfl, ha, hw, had, rfl⟩
  subst hw
  have hlt := dval_lt a (ds.take a) (by simp; omega) had
  have hpa := pow a (by omega)
  refine sel_dec (fun hl => ?_) (fun hl => ?_)
  · obtain ⟨c, hc, hb⟩ := at_ a (by omega)
    have hcm := List.mem_of_getElem? hc
    have bad' : isD c = false → R (.returned (.tuple #[.int .i64 0, .bool false])) w9 := fun hf => bad (.inr (by
      rw [Bool.eq_false_iff]
      intro hall
      rw [List.all_eq_true.1 hall c hcm] at hf
      cases hf))
    rw [hb]
    refine when_dec ⟨by omega, by omega⟩ (sel_dec (fun h => bad' (by unfold isD; exact decide_eq_false (by omega))) (fun h3 => when_dec ⟨by omega, by omega⟩ (sel_dec (fun h => bad' (by unfold isD; exact decide_eq_false (by omega))) (fun h4 => when_dec ⟨by omega, by omega⟩ ?_))))
    have hD : isD c = true := by unfold isD; exact decide_eq_true (by omega)
    have hval : IntKind.wrap .i64 (IntKind.wrap .i64 (10 * (dval (ds.take a) : Int)) + IntKind.wrap .i64 (IntKind.wrap .u8 ((c.toNat : Int) - 48))) = (dval (ds.take (a + 1)) : Int) := by
      have eu : IntKind.wrap .u8 ((c.toNat : Int) - 48) = (c.toNat : Int) - 48 := by
        rw [IntKind.wrap_u8]
        omega
      rw [eu, w64 (x := 10 * (dval (ds.take a) : Int)) (by omega) (by omega), w64 (x := (c.toNat : Int) - 48) (by omega) (by omega), w64 (by omega) (by omega), snoc_at hc, dval_snoc]
      omega
    refine lt_eq hval ?_
    rw [up64 a (by omega)]
    refine ⟨⟨a + 1, rfl, by omega, rfl, fun y hy => ?_, rfl⟩, by simp only [Int.toNat_natCast]; omega⟩
    rw [snoc_at hc] at hy
    simp only [List.mem_append, List.mem_singleton] at hy
    rcases hy with hy | rfl
    · exact had y hy
    · exact hD
  · have hfull : ds.take a = ds := List.take_of_length_le (by omega)
    rw [hfull] at had hlt ⊢
    have hall := List.all_eq_true.2 had
    obtain ⟨c, hc, hb⟩ := at_ 0 (by omega)
    have hb : byteAt d 0 = (c.toNat : Int) := hb
    have hhead : ds.headD 0 = c := by
      match ds, hc with
      | x :: r, hc => simp at hc; subst hc; rfl
    rw [hb]
    refine when_dec ⟨by omega, by omega⟩ (sel_intro (fun h5 => k1 (by omega) hall ?_) (fun h5 => k2 (by omega) hall ?_))
    · have h5 : (c.toNat : Int) = 48 := by simpa using h5
      rw [hhead]
      exact u8_ext (by show c.toNat = 48; omega)
    · rintro h6
      rw [hhead] at h6
      subst h6
      exact absurd h5 (by decide)
theorem rInt_c (s : ByteArray) {w : World} {R : Ending → World → Prop} (k0 : Go.B.intOf (bs s) = none → R (.returned (.tuple #[.int .i64 0, .bool false])) w) (k1 : ∀ v, Go.B.intOf (bs s) = some v → R (.returned (.tuple #[.int .i64 v, .bool true])) w) :
    Calls Tryz.prog 66 #[.string s] w R := by
  apply berthref03_Int_nf
  have hl := bs_len s
  have hb15 : ∀ (l : List UInt8), ¬ (l.length < 1 ∨ 15 < l.length) → l.all isD = true → dval l < 1000000000000000 := fun l h1 h2 => by
    have h3 := dval_lt l.length l rfl fun c hc => List.all_eq_true.1 h2 c hc
    exact Nat.lt_of_lt_of_le h3 (Nat.le_trans (Nat.pow_le_pow_right (by omega) (show l.length ≤ 15 by omega)) (by decide))
  -- not a minus sign: all of the text
  have plain : (bs s).head? ≠ some 45 → ∀ {T1 T2 : Int → World → Prop}, (1 < s.size → R (.returned (.tuple #[.int .i64 0, .bool false])) w → T1 (dval (bs s) : Int) w) → (¬ 1 < s.size → R (.returned (.tuple #[.int .i64 (dval (bs s) : Int), .bool true])) w → T1 (dval (bs s) : Int) w) → (R (.returned (.tuple #[.int .i64 (dval (bs s) : Int), .bool true])) w → T2 (dval (bs s) : Int) w) → _ := fun hh {T1 T2} t1 t1' t2 =>
    digs_c s (R := R) (w := w) (T1 := T1) (T2 := T2) (fun h => k0 (by
      rw [intOf_pos hh]
      rcases h with h | h
      · rw [if_pos h]
      · by_cases h0 : (bs s).length < 1 ∨ 15 < (bs s).length
        · rw [if_pos h0]
        · rw [if_neg h0, if_pos h])) (fun h1 h2 h3 => by
      by_cases h4 : 1 < s.size
      · refine t1 h4 (k0 ?_)
        rw [intOf_pos hh, if_neg h1, if_neg (by rw [h2]; simp), if_pos ⟨h3, fun e => by rw [e] at hl; simp at hl; omega⟩]
      · refine t1' h4 (k1 _ ?_)
        rw [intOf_pos hh, if_neg h1, if_neg (by rw [h2]; simp), if_neg]
        rintro ⟨_, h5⟩
        match hq : bs s, h3, hl with
        | [], _, hl => rw [hq] at h1; simp at h1
        | [x], h3, _ => rw [hq] at h5; simp at h3; subst h3; exact h5 rfl
        | x :: y :: r, _, hl => simp at hl; omega) (fun h1 h2 h3 => t2 (k1 _ (by
      rw [intOf_pos hh, if_neg h1, if_neg (by rw [h2]; simp), if_neg fun h => h3 h.1])))
  refine sel_dec (fun h1 => ?_) (fun h1 => ?_)
  · have hh := byte_head (s := s) (by omega)
    refine when_dec ⟨by omega, by omega⟩ (sel_intro (fun h45 => ?_) (fun h45 => ?_))
    · obtain ⟨r, hr⟩ : ∃ r, bs s = 45 :: r := by
        rw [hh] at h45
        match hq : bs s, h45 with
        | [], h45 => exact absurd h45 (by decide)
        | c :: r, h45 =>
          have h45 : (c.toNat : Int) = 45 := by simpa using h45
          exact ⟨r, by rw [show c = 45 from u8_ext (by show c.toNat = 45; omega)]⟩
      have hd : bs (s.extract 1 s.size) = r := by
        rw [bs_ext, hr]
        show r.take _ = r
        rw [hr] at hl
        exact List.take_of_length_le (by simp at hl; omega)
      rw [hr, intOf_neg] at k0 k1
      refine when_dec ⟨by omega, by omega⟩ (digs_c (s.extract 1 s.size) (fun h => k0 ?_) (fun g1 g2 g3 => ?_) (fun g1 g2 g3 => ?_))
      · rw [hd] at h
        rcases h with h | h
        · rw [if_pos h]
        · by_cases h0 : r.length < 1 ∨ 15 < r.length
          · rw [if_pos h0]
          · rw [if_neg h0, if_pos h]
      · rw [hd] at g1 g2 g3
        have hk := k0 (by rw [if_neg g1, if_neg (by rw [g2]; simp), if_pos g3])
        exact sel_intro (fun _ => hk) (fun _ => sel_true h45 hk)
      · rw [hd] at g1 g2 g3 ⊢
        have := hb15 r g1 g2
        have e0 : IntKind.wrap .i64 (0 - (dval r : Int)) = -(dval r : Int) := by rw [w64 (by omega) (by omega)]; omega
        rw [e0]
        exact sel_true h45 (k1 _ (by rw [if_neg g1, if_neg (by rw [g2]; simp), if_neg g3]))
    · have hne : (bs s).head? ≠ some 45 := fun e => by
        match hq : bs s, e with
        | c :: r, e =>
          simp at e
          subst e
          rw [hh, hq] at h45
          exact absurd h45 (by simp)
      exact plain hne (fun h hk => sel_true (decide_eq_true (by omega)) hk) (fun h => absurd (by omega) h) (fun hk => sel_false h45 hk)
  · by_cases hne : (bs s).head? = some 45
    · obtain ⟨r, hr⟩ : ∃ r, bs s = 45 :: r := by
        match hq : bs s, hne with
        | c :: r, e => simp at e; subst e; exact ⟨r, rfl⟩
      have hr0 : r = [] := by
        rw [hr] at hl
        match r, hl with
        | [], _ => rfl
        | x :: y, hl => simp at hl; omega
      subst hr0
      have hk := k0 (by rw [hr]; rfl)
      have hno : (bs s).all isD = false := by rw [hr]; rfl
      exact digs_c s (fun _ => hk) (fun _ h => by rw [hno] at h; cases h) (fun _ h => by rw [hno] at h; cases h)
    · exact plain hne (fun h => absurd h (by omega)) (fun h hk => sel_false (decide_eq_false (by omega)) hk) (fun hk => hk)
/-! ### a number as a text: the document's way -/
def BY : Lay UInt8 := ⟨fun c => [.int .u8 (c.toNat : Int)], 1, fun _ => rfl, fun x v hv => by simp at hv; subst hv; rfl, by omega⟩
theorem infoB : (Tryz.prog.info? 5).map (fun i => (i.zero, i.size, i.bytes)) = some (some (.int .u8 0), 1, 1) := by kernel_rfl
theorem more_byte {w W w18 : World} {A : Option Addr} {n c : Nat} {l : List UInt8} {x : UInt8} {v : Int} (e : Ext [] w W) (own : LstL BY W w.heap.size 5 A n c l) (hv : v = (x.toNat : Int)) (h18 : w18 = W.alloc (.cells #[.int .u8 v] 5)) (hn : (n + 1) * 1 ≤ 140737488355328) :
    ∃ A' c' w2, (Builtin.append_ #[47, 47] 47 #[.slice A n c, .slice (some ⟨W.heap.size, 0, none⟩) 1 1]).run Tryz.prog w18 = .ok (.slice A' (n + 1) c') w2 ∧ LstL BY w2 w.heap.size 5 A' (n + 1) c' (l ++ [x]) ∧ Ext [] w w2 := by
  subst hv
  obtain ⟨b18, x18, z18⟩ := box_new h18
  have e18 := e.trans x18
  obtain ⟨A', c', w2, hr, ho, he, hat⟩ := LstL.more (P := Tryz.prog) (t := 47) (ty := 47) (x := x) (by exact Tryz.underlying47) infoB rfl (by decide) (own.ext0 x18) b18 e18.size hn
  exact ⟨A', c', w2, hr, ho, Ext.old e18 (fun b hb => (own.fresh b hb).1) he⟩
theorem to_text {w : World} {B : Nat} {A : Option Addr} {n c : Nat} {l : List UInt8} (own : LstL BY w B 5 A n c l) (h0 : 0 < n) :
    (convert 47 9 (.slice A n c)).run Tryz.prog w = .ok (.string (unb l)) w := by
  have hl := own.len
  rcases own.blk with ⟨rfl, hc0⟩ | ⟨g, cs, rfl, hB, hb, hle, htk⟩
  · have := own.cap; omega
  have hs : (unb l).size = n := by rw [← bs_len, bs_unb, hl]
  have hby : Go.Lib.Bytes w g 0 (unb l) := fun i hi => by
    have hil : i < l.length := by omega
    obtain ⟨ad, h1, h2⟩ := own.cells i (.int .u8 (l[i].toNat : Int)) (by
      have := BY.flat_at (xs := l) (i := i) (k := 0) (List.getElem?_eq_getElem hil) rfl
      show (BY.flat l)[i]? = _
      rw [show i * BY.sz + 0 = i from Nat.mul_one i] at this
      exact this)
    cases h1
    rw [Addr.add_lit] at h2
    exact h2
  have := Go.Lib.run_convert_whole (P := Tryz.prog) w 47 5 9 (by exact Tryz.underlying47) (by exact Tryz.underlying5) (by exact Tryz.underlying9) g 0 (unb l) hby c
  rw [hs] at this
  exact this
theorem rev_c {w : World} {R : Ending → World → Prop} {A : Option Addr} {n : Nat} {l : List UInt8} (hc : Cells w A (BY.flat l)) (hl : l.length = n) (h0 : 0 < n) (hb : n ≤ 100)
    (k : ∀ w', Ext [] w w' → R (.returned (.tuple #[.string (unb l.reverse), .bool true])) w') :
    (V.lt (IntKind.wrap .i64 (((n : Nat) : Int) - 1)) fun x14 =>
  ∃ I15 : Option Addr → Nat → Nat → Int → World → Prop, ∃ μ16 : Option Addr → Nat → Nat → Int → World → Nat, I15 none 0 0 x14 w ∧
  ∀ r_17 r_17l r_17c i_18 (j19 : Nat → Value) (w20 : World), I15 r_17 r_17l r_17c i_18 w20 →
  (V.sel (decide (i_18 ≥ 0))
  (V.when (decide ((0 : Int) ≤ i_18 ∧ (i_18 : Int) < ((n : Nat) : Int))) (V.ptr A fun a21 =>
  ∃ n22, World.cell? w20 (Addr.add a21 ((Int.toNat i_18) * 1)) = some (Value.int .u8 n22) ∧
  ∀ w23, w23 = (World.alloc w20 (.cells #[(Value.int .u8 n22)] 5)) →
  ∃ A24, ∃ A24l, ∃ A24c, ∃ w25, Sem.run Tryz.prog (Builtin.append_ #[47, 47] 47 #[(Value.slice r_17 r_17l r_17c), (Value.slice (some ⟨Array.size (World.heap w20), 0, none⟩) 1 1)]) w23 = .ok (Value.slice A24 A24l A24c) w25 ∧
  I15 A24 A24l A24c (IntKind.wrap .i64 (i_18 - 1)) w25 ∧ μ16 A24 A24l A24c (IntKind.wrap .i64 (i_18 - 1)) w25 < μ16 r_17 r_17l r_17c i_18 w20))
  (∃ s26, ∃ w27, Sem.run Tryz.prog (convert 47 9 (Value.slice r_17 r_17l r_17c)) w20 = .ok (Value.string s26) w27 ∧
  R (Ending.returned (Value.tuple #[(Value.string s26), (Value.bool true)])) w27))) := by
  refine lt_eq (y := (n : Int) - 1) (by rw [w64 (by omega) (by omega)]) ?_
  refine ⟨fun A' n' c' i w' => ∃ j : Nat, i = (j : Int) - 1 ∧ j ≤ n ∧ Ext [] w w' ∧ n' = n - j ∧ LstL BY w' w.heap.size 5 A' n' c' (l.reverse.take (n - j)), fun _ _ _ i _ => (i + 1).toNat, ⟨n, rfl, Nat.le_refl _, Ext.refl _ _, by omega, by rw [Nat.sub_self]; exact LstL.nil _ _ _⟩, ?_⟩
  rintro A' n' c' _ _ w20 ⟨j, rfl, hj, e20, rfl, own⟩
  refine sel_dec (fun hge => ?_) (fun hlt => ?_)
  · have hx : l[j - 1]? = some (l[j - 1]'(by omega)) := List.getElem?_eq_getElem (by omega)
    generalize l[j - 1]'(by omega) = x at hx
    obtain ⟨ad, hA, hcell⟩ := (hc.ext0 e20) (j - 1) (.int .u8 (x.toNat : Int)) (by
      have := BY.flat_at (xs := l) (i := j - 1) (k := 0) hx rfl
      rw [show (j - 1) * BY.sz + 0 = j - 1 from Nat.mul_one _] at this
      exact this)
    subst hA
    have e1 : Int.toNat ((j : Int) - 1) * 1 = j - 1 := by omega
    rw [e1]
    refine when_dec ⟨by omega, by omega⟩ ⟨_, hcell, fun w23 h23 => ?_⟩
    obtain ⟨A2, c2, w25, hr, ho, he⟩ := more_byte e20 own rfl h23 (by omega)
    have e2 : IntKind.wrap .i64 ((j : Int) - 1 - 1) = ((j - 1 : Nat) : Int) - 1 := by rw [w64 (by omega) (by omega)]; omega
    rw [e2]
    have hrev : l.reverse[n - j]? = some x := by rw [List.getElem?_reverse (by omega), show l.length - 1 - (n - j) = j - 1 by omega]; exact hx
    refine ⟨_, _, _, _, hr, ⟨j - 1, rfl, by omega, he, by omega, ?_⟩, by show (((j - 1 : Nat) : Int) - 1 + 1).toNat < ((j : Int) - 1 + 1).toNat; omega⟩
    rw [show n - (j - 1) = (n - j) + 1 by omega, snoc_at hrev]
    exact ho
  · have hj0 : j = 0 := by omega
    subst hj0
    rw [List.take_of_length_le (by simp; omega)] at own
    exact ⟨_, _, to_text own (by omega), k _ e20⟩
theorem dig_val (m : Nat) : IntKind.wrap .u8 ((IntKind.wrap .i64 (48 + (Int.tmod (m : Int) 10)))) = ((UInt8.ofNat (48 + m % 10)).toNat : Int) := by
  have h1 : Int.tmod (m : Int) 10 = ((m % 10 : Nat) : Int) := by rw [Int.tmod_eq_emod_of_nonneg (by omega)]; omega
  have h2 := ofNat_dig (d := m % 10) (Nat.mod_lt _ (by omega))
  rw [h1, w64 (by omega) (by omega), IntKind.wrap_u8, h2]
  omega
set_option maxHeartbeats 1000000 in
theorem dloop_c {w : World} {R : Ending → World → Prop} (n : Int) (u0 : Nat) (h0 : 0 < u0) (hb : u0 ≤ 999999999999999)
    (k : ∀ w', Ext [] w w' → R (.returned (.tuple #[.string (unb (if n < 0 then 45 :: Go.Lib.decDigits u0 else Go.Lib.decDigits u0)), .bool true])) w') :
    (∃ I2 : Int → Option Addr → Nat → Nat → World → Prop, ∃ μ3 : Int → Option Addr → Nat → Nat → World → Nat, I2 (u0 : Int) none 0 0 w ∧
  ∀ m_4 b_5 b_5l b_5c (j6 : Nat → Value) (w7 : World), I2 m_4 b_5 b_5l b_5c w7 →
  (V.sel (decide (m_4 > 0))
  (∀ w8, w8 = (World.alloc w7 (.cells #[(Value.int .u8 (IntKind.wrap .u8 ((IntKind.wrap .i64 (48 + (Int.tmod m_4 10))))))] 5)) →
  ∃ A9, ∃ A9l, ∃ A9c, ∃ w10, Sem.run Tryz.prog (Builtin.append_ #[47, 47] 47 #[(Value.slice b_5 b_5l b_5c), (Value.slice (some ⟨Array.size (World.heap w7), 0, none⟩) 1 1)]) w8 = .ok (Value.slice A9 A9l A9c) w10 ∧
  I2 (IntKind.wrap .i64 (Int.tdiv m_4 10)) A9 A9l A9c w10 ∧ μ3 (IntKind.wrap .i64 (Int.tdiv m_4 10)) A9 A9l A9c w10 < μ3 m_4 b_5 b_5l b_5c w7)
  (V.sel (decide (n < 0))
  (∀ w11, w11 = (World.alloc w7 (.cells #[(Value.int .u8 45)] 5)) →
  ∃ A12, ∃ A12l, ∃ A12c, ∃ w13, Sem.run Tryz.prog (Builtin.append_ #[47, 47] 47 #[(Value.slice b_5 b_5l b_5c), (Value.slice (some ⟨Array.size (World.heap w7), 0, none⟩) 1 1)]) w11 = .ok (Value.slice A12 A12l A12c) w13 ∧
  V.lt (IntKind.wrap .i64 (((A12l : Nat) : Int) - 1)) fun x14 =>
  ∃ I15 : Option Addr → Nat → Nat → Int → World → Prop, ∃ μ16 : Option Addr → Nat → Nat → Int → World → Nat, I15 none 0 0 x14 w13 ∧
  ∀ r_17 r_17l r_17c i_18 (j19 : Nat → Value) (w20 : World), I15 r_17 r_17l r_17c i_18 w20 →
  (V.sel (decide (i_18 ≥ 0))
  (V.when (decide ((0 : Int) ≤ i_18 ∧ (i_18 : Int) < ((A12l : Nat) : Int))) (V.ptr A12 fun a21 =>
  ∃ n22, World.cell? w20 (Addr.add a21 ((Int.toNat i_18) * 1)) = some (Value.int .u8 n22) ∧
  ∀ w23, w23 = (World.alloc w20 (.cells #[(Value.int .u8 n22)] 5)) →
  ∃ A24, ∃ A24l, ∃ A24c, ∃ w25, Sem.run Tryz.prog (Builtin.append_ #[47, 47] 47 #[(Value.slice r_17 r_17l r_17c), (Value.slice (some ⟨Array.size (World.heap w20), 0, none⟩) 1 1)]) w23 = .ok (Value.slice A24 A24l A24c) w25 ∧
  I15 A24 A24l A24c (IntKind.wrap .i64 (i_18 - 1)) w25 ∧ μ16 A24 A24l A24c (IntKind.wrap .i64 (i_18 - 1)) w25 < μ16 r_17 r_17l r_17c i_18 w20))
  (∃ s26, ∃ w27, Sem.run Tryz.prog (convert 47 9 (Value.slice r_17 r_17l r_17c)) w20 = .ok (Value.string s26) w27 ∧
  R (Ending.returned (Value.tuple #[(Value.string s26), (Value.bool true)])) w27)))
  (V.lt (IntKind.wrap .i64 (((b_5l : Nat) : Int) - 1)) fun x28 =>
  ∃ I29 : Option Addr → Nat → Nat → Int → World → Prop, ∃ μ30 : Option Addr → Nat → Nat → Int → World → Nat, I29 none 0 0 x28 w7 ∧
  ∀ r_31 r_31l r_31c i_32 (j33 : Nat → Value) (w34 : World), I29 r_31 r_31l r_31c i_32 w34 →
  (V.sel (decide (i_32 ≥ 0))
  (V.when (decide ((0 : Int) ≤ i_32 ∧ (i_32 : Int) < ((b_5l : Nat) : Int))) (V.ptr b_5 fun a35 =>
  ∃ n36, World.cell? w34 (Addr.add a35 ((Int.toNat i_32) * 1)) = some (Value.int .u8 n36) ∧
  ∀ w37, w37 = (World.alloc w34 (.cells #[(Value.int .u8 n36)] 5)) →
  ∃ A38, ∃ A38l, ∃ A38c, ∃ w39, Sem.run Tryz.prog (Builtin.append_ #[47, 47] 47 #[(Value.slice r_31 r_31l r_31c), (Value.slice (some ⟨Array.size (World.heap w34), 0, none⟩) 1 1)]) w37 = .ok (Value.slice A38 A38l A38c) w39 ∧
  I29 A38 A38l A38c (IntKind.wrap .i64 (i_32 - 1)) w39 ∧ μ30 A38 A38l A38c (IntKind.wrap .i64 (i_32 - 1)) w39 < μ30 r_31 r_31l r_31c i_32 w34))
  (∃ s40, ∃ w41, Sem.run Tryz.prog (convert 47 9 (Value.slice r_31 r_31l r_31c)) w34 = .ok (Value.string s40) w41 ∧
  R (Ending.returned (Value.tuple #[(Value.string s40), (Value.bool true)])) w41)))))) := by
  have hlen : (Go.Lib.decDigits u0).length ≤ 15 := by rw [Go.Lib.decDigits_length]; exact nDigits_le 14 u0 (by omega)
  refine ⟨fun m A n' c w' => ∃ (u : Nat) (l : List UInt8), m = u ∧ u ≤ u0 ∧ Ext [] w w' ∧ LstL BY w' w.heap.size 5 A n' c l ∧ Go.Lib.decDigits u0 = (if u = 0 then [] else Go.Lib.decDigits u) ++ l.reverse, fun m _ _ _ _ => m.toNat,
    ⟨u0, [], rfl, Nat.le_refl _, Ext.refl _ _, LstL.nil _ _ _, by rw [if_neg (by omega)]; simp⟩, ?_⟩
  rintro _ A n' c _ w7 ⟨u, l, rfl, hu, e7, own, hdec⟩
  have hol := own.len
  have hl15 : l.length ≤ 15 := by
    have := congrArg List.length hdec
    rw [List.length_append, List.length_reverse] at this
    omega
  refine sel_dec (fun hpos => ?_) (fun hz => ?_)
  · rw [dig_val]
    intro w8 h8
    obtain ⟨A2, c2, w10, hr, ho, he⟩ := more_byte e7 own rfl h8 (by omega)
    have hd : Int.tdiv (u : Int) 10 = ((u / 10 : Nat) : Int) := by rw [Int.tdiv_eq_ediv_of_nonneg (by omega)]; omega
    rw [hd, w64 (by omega) (by omega)]
    refine ⟨_, _, _, _, hr, ⟨u / 10, _, rfl, by omega, he, ho, ?_⟩, by simp only [Int.toNat_natCast]; omega⟩
    rw [hdec, if_neg (by omega), List.reverse_append, List.reverse_cons, List.reverse_nil, List.nil_append]
    conv => lhs; rw [Go.Lib.decDigits]
    by_cases h10 : u < 10
    · rw [dif_pos h10, if_pos (by omega), Nat.mod_eq_of_lt h10]; rfl
    · rw [dif_neg h10, if_neg (by omega), List.append_assoc]
  · have hu0 : u = 0 := by omega
    subst hu0
    rw [if_pos rfl, List.nil_append] at hdec
    have hne : 1 ≤ l.length := by
      have h1 := Go.Lib.decDigits_length u0
      have h2 := Go.Lib.nDigits_pos u0
      rw [hdec, List.length_reverse] at h1
      omega
    refine sel_dec (fun hneg w11 h11 => ?_) (fun hneg => ?_)
    · obtain ⟨A2, c2, w13, hr, ho, he⟩ := more_byte (x := 45) e7 own rfl h11 (by omega)
      refine ⟨_, _, _, _, hr, rev_c ho.cells ho.len (by omega) (by omega) fun w' e' => ?_⟩
      have := k w' (he.trans e')
      rw [if_pos hneg, hdec] at this
      rw [List.reverse_append]
      exact this
    · refine rev_c own.cells hol (by omega) (by omega) fun w' e' => ?_
      have := k w' (e7.trans e')
      rw [if_neg hneg, hdec] at this
      exact this
theorem rIntText_c {w : World} (n : Int) {R : Ending → World → Prop} (k0 : ¬ (-999999999999999 ≤ n ∧ n ≤ 999999999999999) → R (.returned (.tuple #[.string ByteArray.empty, .bool false])) w)
    (k1 : ∀ w', Ext [] w w' → -999999999999999 ≤ n ∧ n ≤ 999999999999999 → R (.returned (.tuple #[.string ⟨(Go.Lib.itoa n).toArray⟩, .bool true])) w') : Calls Tryz.prog 68 #[.int .i64 n] w R := by
  apply berthref03_IntText_nf
  refine sel_dec (fun h => k0 (by omega)) (fun h1 => sel_dec (fun h => k0 (by omega)) (fun h2 => sel_intro (fun hz => ?_) (fun hz => ?_)))
  · have hz : n = 0 := by simpa using hz
    subst hz
    have := k1 w (Ext.refl _ _) ⟨by omega, by omega⟩
    have e : Go.Lib.itoa 0 = [48] := by
      unfold Go.Lib.itoa
      rw [if_neg (by omega), show (0 : Int).toNat = 0 from rfl, Go.Lib.decDigits_one (by omega)]
      rfl
    rw [e] at this; exact this
  · have hz : n ≠ 0 := by simpa using hz
    refine sel_dec (fun hneg => ?_) (fun hneg => ?_)
    · have e1 : IntKind.wrap .i64 (0 - n) = (n.natAbs : Int) := by rw [w64 (by omega) (by omega)]; omega
      rw [e1]
      refine dloop_c n n.natAbs (by omega) (by omega) fun w' e => ?_
      have := k1 w' e ⟨by omega, by omega⟩
      unfold Go.Lib.itoa at this
      rw [if_pos hneg] at this
      rw [if_pos hneg]; exact this
    · obtain ⟨u, rfl⟩ : ∃ u : Nat, n = (u : Int) := ⟨n.toNat, by omega⟩
      refine dloop_c (u : Int) u (by omega) (by omega) fun w' e => ?_
      have := k1 w' e ⟨by omega, by omega⟩
      unfold Go.Lib.itoa at this
      rw [if_neg hneg, Int.toNat_natCast] at this
      rw [if_neg hneg]; exact this
end Go.Proofs.YtcohengppaighaaGreatDoor
