/- Image: the reader's bytes, counts, numbers and texts; its faults are panics. -/
import Derived.Test.YtoaeefjcjdhlkaaGreatI9
set_option linter.unusedVariables false
set_option linter.unusedSimpArgs false
namespace Go.Proofs.YtoaeefjcjdhlkaaGreat
open Go Go.V Go.B

def faultC (c p : Int) : List Value := [.int .i64 c, .int .i64 p, .string ByteArray.empty, .nilIface]
/-- What the reader panics with. -/
def gaveUp (fa : Nat) : List PanicEntry := [{ v := .iface 131 (.agg #[.pointer (some ⟨fa, 0, none⟩)]), recovered := false }]
def IL : Lay Nat := ⟨fun x => [.int .i64 (x : Int)], 1, fun _ => rfl, fun x v hv => by simp at hv; subst hv; rfl, by omega⟩
def TL : Lay Bool := ⟨fun x => [.bool x], 1, fun _ => rfl, fun x v hv => by simp at hv; subst hv; rfl, by omega⟩
/-- What stays while a state is read. -/
structure RC where
  W : World
  rb : Nat
  N : Nat
  B : Option Addr
  bc : Nat
  b : List UInt8
  T : List ByteArray
  S : List Nat
  TA : Option Addr
  Tc : Nat
  SA : Option Addr
  Sc : Nat
  UA : Option Addr
  Uc : Nat
def RC.F (C : RC) : List Nat := C.rb :: ownF C.UA
structure RC.Ok (C : RC) : Prop where
  nd : C.T.Nodup
  bytes : Cells C.W C.B (BL.flat C.b)
  le : C.b.length ≤ 16777216
  cap : C.b.length ≤ C.bc
  rW : C.W.heap.size ≤ C.rb
  rN : C.rb < C.N
  uN : ∀ x ∈ ownF C.UA, C.W.heap.size ≤ x ∧ x < C.N
  ts : ∀ t ∈ C.T, t.size ≤ 16777216
  sl : C.S.length = C.T.length
  rT : C.rb ∉ ownF C.TA
  rS : C.rb ∉ ownF C.SA
  rU : C.rb ∉ ownF C.UA
  uT : ∀ x ∈ ownF C.UA, x ∉ ownF C.TA
  uS : ∀ x ∈ ownF C.UA, x ∉ ownF C.SA
  tN : ∀ x ∈ ownF C.TA, x < C.N
  sN : ∀ x ∈ ownF C.SA, x < C.N
structure RdAt (C : RC) (s : Pst) (w : World) : Prop where
  ex : Ext [] C.W w
  n : C.N ≤ w.heap.size
  blk : BlkT w C.rb [.slice C.B C.b.length C.bc, .int .i64 (s.at_ : Int), .slice C.TA C.T.length C.Tc, .slice C.SA C.S.length C.Sc, .slice C.UA C.T.length C.Uc] 137
  t : OwnL SL w C.W.heap.size 9 C.TA C.T.length C.Tc C.T
  st : OwnL IL w C.W.heap.size 3 C.SA C.S.length C.Sc C.S
  u : OwnL TL w C.W.heap.size 4 C.UA C.T.length C.Uc s.used
  at_ : s.at_ ≤ C.b.length
  rest : s.rest = C.b.drop s.at_
theorem RC.Ok.FN {C : RC} (h : C.Ok) : ∀ x ∈ C.F, x < C.N := fun x hx => by
  rcases List.mem_cons.1 hx with rfl | hx
  · exact h.rN
  · exact (h.uN x hx).2
theorem RdAt.stay {C : RC} (ok : C.Ok) {s : Pst} {w w' : World} {G : List Nat} (h : RdAt C s w) (e : Ext G w w') (hG : ∀ x ∈ G, C.N ≤ x) : RdAt C s w' := by
  have hn : ∀ x, x < C.N → x ∉ G := fun x hx hm => by have := hG x hm; omega
  refine ⟨h.ex.trans' e (fun x hx => .inr ?_), Nat.le_trans h.n e.size, h.blk.ext e (hn _ ok.rN), h.t.ext e (fun x hx => hn x (ok.tN x hx)), h.st.ext e (fun x hx => hn x (ok.sN x hx)), h.u.ext e (fun x hx => hn x (ok.uN x hx).2), h.at_, h.rest⟩
  have := hG x hx; have := ok.rN; have := ok.rW; omega
/-- What is answered behind a reading. -/
def Post (C : RC) (w0 : World) {α : Type} (r : Res α) (ok : α → Pst → World → Prop) (R : Ending → World → Prop) : Prop :=
  match r with
  | .ok a s => ∀ w', RdAt C s w' → Ext C.F w0 w' → ok a s w'
  | .err c p => ∀ w' fa, Ext C.F w0 w' → w0.heap.size ≤ fa → BlkT w' fa (faultC c p) 129 → R (.panicked (gaveUp fa)) w'
theorem fail_c {w : World} {q : Option Addr} {c p : Int} {R : Ending → World → Prop} (k : ∀ w' fa, Ext [] w w' → w.heap.size ≤ fa → BlkT w' fa (faultC c p) 129 → R (.panicked (gaveUp fa)) w') : Calls Tryz.prog 62 #[.pointer q, .int .i64 c, .int .i64 p] w R := by
  apply image_reader_fail_nf
  intro w4 h4
  obtain ⟨b4, x4, z4⟩ := box_new (cs := faultC c p) h4
  exact k w4 _ x4 (Nat.le_refl _) b4
variable {C : RC} (ok : C.Ok)
include ok
theorem RdAt.byte {s : Pst} {w : World} (h : RdAt C s w) {x : UInt8} {r : List UInt8} (hx : s.rest = x :: r) : ∃ ad, C.B = some ad ∧ w.cell? (Addr.add ad ((Int.toNat (s.at_ : Int)) * 1)) = some (.int .u8 (x.toNat : Int)) ∧ s.at_ < C.b.length := by
  have h1 : C.b[s.at_]? = some x := by
    have := congrArg (·[0]?) (h.rest.symm.trans hx)
    simpa using this
  have hlt := (List.getElem?_eq_some_iff.1 h1).1
  obtain ⟨y, ad, hy, e, rd⟩ := Cells.row (L := BL) (ok.bytes.ext0 h.ex) rfl hlt
  rw [h1] at hy
  cases hy
  exact ⟨ad, e, by have := rd 0 _ rfl; rw [Addr.add_zero'] at this; exact this, hlt⟩
theorem RdAt.put {s : Pst} {w : World} (h : RdAt C s w) {a : Nat} (ha : a ≤ C.b.length) {t : TypeId} (ht : (Tryz.prog.info? t).map (·.size) = some 1) :
    ∃ w', (Instr.storeAt t (.pointer (some (Addr.add ⟨C.rb, 0, none⟩ 1))) (.int .i64 (a : Int))).run Tryz.prog w = .ok () w' ∧ RdAt C ⟨a, C.b.drop a, s.used⟩ w' ∧ Ext C.F w w' := by
  obtain ⟨w', hr, hb, e⟩ := store1a (P := Tryz.prog) (t := t) (i := 1) (v := .int .i64 (a : Int)) ht h.blk (by simp) rfl rfl
  refine ⟨w', hr, ⟨h.ex.trans' e (fun x hx => by simp at hx; subst hx; exact .inr ok.rW), Nat.le_trans h.n e.size, hb, h.t.ext e (fun x hx hm => by simp at hm; subst hm; exact ok.rT hx), h.st.ext e (fun x hx hm => by simp at hm; subst hm; exact ok.rS hx), h.u.ext e (fun x hx hm => by simp at hm; subst hm; exact ok.rU hx), ha, rfl⟩, e.weaken fun x hx => .inl (by simp at hx; simp [RC.F, hx])⟩
def oneS (s : Pst) : Res UInt8 := match s.rest with
  | [] => .err 262 s.at_
  | c :: r => .ok c ⟨s.at_ + 1, r, s.used⟩
omit ok in
theorem iInt : (Tryz.prog.info? 3).map (·.size) = some 1 := by kernel_rfl
theorem one_c {s : Pst} {w : World} (h : RdAt C s w) {R : Ending → World → Prop} (k : Post C w (oneS s) (fun x s' w' => R (.returned (.int .u8 (x.toNat : Int))) w') R) : Calls Tryz.prog 138 #[.pointer (some ⟨C.rb, 0, none⟩)] w R := by
  apply image_reader_one_nf
  have hle := ok.le
  unfold oneS at k
  cases hr : s.rest with
  | nil =>
    have hat : s.at_ = C.b.length := by
      have := congrArg List.length (h.rest.symm.trans hr)
      simp at this
      have := h.at_
      omega
    rw [hr] at k
    refine ⟨fun _ => False, ptr_in ⟨_, cadd h.blk rfl, ptr_in ⟨_, _, _, cadd h.blk rfl, sel_dec (fun _ => ptr_in ⟨_, _, _, cadd (BlkT.ext h.blk (Ext.refl [] w).drew (by simp)) rfl, ?_⟩) (fun hlt => by omega)⟩⟩, fun _ _ h => h.elim⟩
    refine fail_c fun w' fa e hfa hb => .inr ⟨_, rfl, k w' fa ((Ext.refl _ _).drew.trans e.up) hfa ?_⟩
    rw [hat]; exact hb
  | cons x r =>
    rw [hr] at k
    obtain ⟨ad, hB, hc, hlt⟩ := h.byte ok hr
    refine ⟨fun w' => w' = w.drew, ptr_in ⟨_, cadd h.blk rfl, ptr_in ⟨_, _, _, cadd h.blk rfl, sel_dec (fun hge => by omega) (fun _ => rfl)⟩⟩, ?_⟩
    rintro _ w13 rfl
    have d1 : Ext [] w w.drew := (Ext.refl _ _).drew
    have h1 := h.stay ok d1 (by simp)
    have d2 : Ext [] w.drew w.drew.drew := (Ext.refl _ _).drew
    have h2 := h1.stay ok d2 (by simp)
    obtain ⟨w23, hs, h23, e23⟩ := h2.put ok (a := s.at_ + 1) (by omega) iInt
    refine ptr_in ⟨_, _, _, cadd h1.blk rfl, ptr_in ⟨_, cadd h1.blk rfl, when_dec ⟨by omega, by omega⟩ ?_⟩⟩
    rw [hB]
    refine ptr_in ⟨_, cell_ext d1 hc (by simp), ptr_in ⟨_, cadd h2.blk rfl, ptr_in ⟨w23, ?_, k w23 ?_ ((d1.trans d2).up.trans e23)⟩⟩⟩
    · rw [up64 s.at_ (by omega)]; exact hs
    · have e : C.b.drop (s.at_ + 1) = r := by
        have := congrArg List.tail (h.rest.symm.trans hr)
        simpa using this
      rw [← e]; exact h23
omit ok
/-! ### arithmetic of the reader -/
theorem and127 (c : UInt8) : (BitVec.ofInt 8 (c.toNat : Int) &&& BitVec.ofInt 8 127).toNat = c.toNat % 128 := by
  have hc := c.toNat_lt
  rw [BitVec.ofInt_natCast, show BitVec.ofInt 8 127 = BitVec.ofNat 8 127 from rfl, BitVec.toNat_and, BitVec.toNat_ofNat, BitVec.toNat_ofNat, Nat.mod_eq_of_lt (by omega)]
  exact Nat.and_two_pow_sub_one_eq_mod c.toNat 7
theorem or_count {i acc x : Nat} (hi : i ≤ 9) (ha : acc < 2 ^ (7 * i)) (hx : acc + x * 2 ^ (7 * i) < 18446744073709551616) (hx1 : x < 128) (c : UInt8) (hc : c.toNat % 128 = x) :
    IntKind.wrap .u64 ((BitVec.toNat (BitVec.ofInt 64 (acc : Int) ||| BitVec.ofInt 64 (IntKind.wrap .u64 ((IntKind.wrap .u64 ((IntKind.wrap .u8 ((BitVec.toNat (BitVec.ofInt 8 (c.toNat : Int) &&& BitVec.ofInt 8 127) : Nat) : Int)))) * 2 ^ (min (Int.toNat ((7 * i : Nat) : Int)) 64)))) : Nat) : Int) = ((acc + x * 2 ^ (7 * i) : Nat) : Int) := by
  rw [and127, hc, wu8, wu64 (n := ((x : Nat) : Int) % 256) (by omega), Int.toNat_natCast, Nat.min_eq_left (by omega), show ((x : Int) % 256) = (x : Int) by omega]
  have e : (x : Int) * 2 ^ (7 * i) = ((x * 2 ^ (7 * i) : Nat) : Int) := by push_cast; rfl
  rw [e, wu64 (n := ((x * 2 ^ (7 * i) : Nat) : Int)) (by omega), BitVec.ofInt_natCast, BitVec.ofInt_natCast, BitVec.toNat_or, BitVec.toNat_ofNat, BitVec.toNat_ofNat, Nat.mod_eq_of_lt (by omega), Nat.mod_eq_of_lt (by omega)]
  have h1 := Nat.two_pow_add_eq_or_of_lt ha x
  rw [Nat.mul_comm] at h1
  rw [Nat.or_comm, ← h1, Nat.add_comm, wu64 (by omega)]
theorem wi64 {n : Int} (h : -9223372036854775808 ≤ n ∧ n < 9223372036854775808) : IntKind.wrap .i64 n = n := w64 (by omega) (by omega)
theorem num_back {n : Nat} (h : n < 18446744073709551616) :
    IntKind.wrap .i64 ((BitVec.toNat (BitVec.ofInt 64 (IntKind.wrap .i64 ((Int.fdiv (n : Int) (2 ^ 1)))) ^^^ BitVec.ofInt 64 (IntKind.wrap .i64 (0 - (IntKind.wrap .i64 ((IntKind.wrap .u64 ((BitVec.toNat (BitVec.ofInt 64 (n : Int) &&& BitVec.ofInt 64 1) : Nat) : Int))))))) : Nat) : Int) = numBack n := by
  have e1 : Int.fdiv (n : Int) (2 ^ 1) = ((n / 2 : Nat) : Int) := by
    rw [Int.fdiv_eq_ediv_of_nonneg _ (by decide)]; norm_cast
  have e2 : (BitVec.ofInt 64 (n : Int) &&& BitVec.ofInt 64 1).toNat = n % 2 := by
    rw [BitVec.ofInt_natCast, show BitVec.ofInt 64 1 = BitVec.ofNat 64 1 from rfl, BitVec.toNat_and, BitVec.toNat_ofNat, BitVec.toNat_ofNat, Nat.mod_eq_of_lt (by omega)]
    exact Nat.and_two_pow_sub_one_eq_mod n 1
  have wlit : IntKind.wrap .i64 (18446744073709551615 - ((n / 2 : Nat) : Int)) = -((n / 2 : Nat) : Int) - 1 := by
    simp only [IntKind.wrap, IntKind.bits, IntKind.signed]
    simp
    omega
  rw [e1, e2, wi64 (n := ((n / 2 : Nat) : Int)) (by omega), wu64 (n := ((n % 2 : Nat) : Int)) (by omega), wi64 (n := ((n % 2 : Nat) : Int)) (by omega), wi64 (n := 0 - ((n % 2 : Nat) : Int)) (by omega), BitVec.ofInt_natCast]
  unfold numBack
  by_cases h0 : n % 2 = 0
  · rw [if_pos h0, h0, show BitVec.ofInt 64 (0 - ((0 : Nat) : Int)) = 0#64 by decide, BitVec.xor_zero, BitVec.toNat_ofNat, Nat.mod_eq_of_lt (by omega), wi64 (by omega)]
  · have h1 : n % 2 = 1 := by omega
    rw [if_neg h0, h1, show BitVec.ofInt 64 (0 - ((1 : Nat) : Int)) = BitVec.allOnes 64 by decide, BitVec.xor_allOnes, BitVec.toNat_not, BitVec.toNat_ofNat, Nat.mod_eq_of_lt (by omega)]
    rw [← wlit]
    congr 1
    omega
include ok
set_option maxRecDepth 100000 in
theorem count_c {s : Pst} {w : World} (h : RdAt C s w) {R : Ending → World → Prop} (k : Post C w (countS s) (fun n s' w' => R (.returned (.int .u64 (n : Int))) w') R) : Calls Tryz.prog 118 #[.pointer (some ⟨C.rb, 0, none⟩)] w R := by
  apply image_reader_count_nf
  have hle := ok.le
  refine ptr_in ⟨_, cadd h.blk rfl, ?_⟩
  refine ⟨fun n t w' => ∃ (i acc : Nat) (s' : Pst), n = acc ∧ t = ((7 * i : Nat) : Int) ∧ i ≤ 9 ∧ acc < 2 ^ (7 * i) ∧ RdAt C s' w' ∧ Ext C.F w w' ∧ countS s = countGo s.at_ i acc s'.at_ s'.rest s'.used, fun _ t _ => 70 - t.toNat, ⟨0, 0, s, rfl, rfl, by omega, by decide, h, Ext.refl _ _, rfl⟩, ?_⟩
  rintro _ _ _ w9 ⟨i, acc, s9, rfl, rfl, hi, hacc, h9, e9, hS⟩
  refine one_c ok h9 ?_
  unfold oneS
  cases hr : s9.rest with
  | nil =>
    rw [hr, countGo] at hS
    rw [hS] at k
    exact fun w' fa e hfa hb => .inr ⟨_, rfl, k w' fa (e9.trans e) (Nat.le_trans e9.size hfa) hb⟩
  | cons x r =>
    rw [hr, countGo] at hS
    have hxl := x.toNat_lt
    refine fun w12 h12 e12 => .inl ⟨_, rfl, ?_⟩
    have bad : ((i = 9 ∧ 1 < x.toNat) ∨ (0 < i ∧ x.toNat = 0)) → ∀ {J : World → Prop}, Calls Tryz.prog 62 #[.pointer (some ⟨C.rb, 0, none⟩), .int .i64 263, .int .i64 (s.at_ : Int)] w12 fun e14 w15 => (e14 = Ending.returned undef ∧ J w15) ∨ (∃ ch16, e14 = Ending.panicked ch16 ∧ R (Ending.panicked ch16) w15) := fun hb J => by
      rw [if_pos hb] at hS
      rw [hS] at k
      exact fail_c fun w' fa e hfa hbl => .inr ⟨_, rfl, k w' fa ((e9.trans e12).trans e.up) (by have := e9.size; have := e12.size; omega) hbl⟩
    have z1 : ∀ {p q : Prop}, (0 < i ∧ x.toNat = 0 → p) → (¬ (0 < i ∧ x.toNat = 0) → q) → V.sel (decide (((7 * i : Nat) : Int) > 0)) (V.sel (((x.toNat : Nat) : Int) == 0) p q) q := fun hp hq =>
      sel_dec (fun h1 => sel_intro (fun h2 => hp ⟨by omega, by simpa using h2⟩) (fun h2 => hq (fun h3 => by rw [h3.2] at h2; simp at h2))) (fun h1 => hq (fun h3 => by omega))
    refine ⟨fun w' => w' = w12 ∧ ¬ ((i = 9 ∧ 1 < x.toNat) ∨ (0 < i ∧ x.toNat = 0)), ?_, ?_⟩
    · refine sel_intro (fun h63 => ?_) (fun h63 => ?_)
      · have hi9 : i = 9 := by simp at h63; omega
        exact sel_dec (fun hgt => bad (.inl ⟨hi9, by omega⟩)) (fun hgt => z1 (fun hz => bad (.inr hz)) (fun hz => ⟨rfl, fun h => h.elim (fun h => by omega) hz⟩))
      · have hi9 : i ≠ 9 := fun e => by subst e; simp at h63
        exact z1 (fun hz => bad (.inr hz)) (fun hz => ⟨rfl, fun h => h.elim (fun h => hi9 h.1) hz⟩)
    · rintro _ w24 ⟨rfl, hgood⟩
      rw [if_neg hgood] at hS
      have hp0 : 0 < 2 ^ (7 * i) := Nat.pow_pos (by omega)
      have hxs : acc + x.toNat % 128 * 2 ^ (7 * i) < 18446744073709551616 := by
        rcases Nat.lt_or_ge i 9 with h1 | h1
        · have h2 : x.toNat % 128 * 2 ^ (7 * i) ≤ 127 * 2 ^ (7 * i) := Nat.mul_le_mul_right _ (by omega)
          have h3 : 2 ^ (7 * i) ≤ 2 ^ 56 := Nat.pow_le_pow_right (by omega) (by omega)
          have h4 : (2 : Nat) ^ 56 = 72057594037927936 := by decide
          omega
        · obtain rfl : i = 9 := by omega
          have h2 : (2 : Nat) ^ (7 * 9) = 9223372036854775808 := by decide
          rw [h2] at hacc ⊢
          have : x.toNat ≤ 1 := by
            rcases Nat.lt_or_ge 1 x.toNat with h | h
            · exact absurd (.inl ⟨rfl, h⟩) hgood
            · exact h
          have : x.toNat % 128 ≤ 1 := by omega
          have := Nat.mul_le_mul_right 9223372036854775808 this
          omega
      refine when_dec (by omega) (lt_eq (or_count hi hacc hxs (by omega) x rfl) ?_)
      refine sel_dec (fun hlt => ?_) (fun hge => ?_)
      · rw [if_pos (by omega)] at hS
        rw [hS] at k
        exact k w24 h12 (e9.trans e12)
      · rw [if_neg (by omega)] at hS
        have hi8 : i ≤ 8 := by
          rcases Nat.lt_or_ge i 9 with h1 | h1
          · omega
          · obtain rfl : i = 9 := by omega
            exact absurd (.inl ⟨rfl, by omega⟩) hgood
        have hw : IntKind.wrap .i64 (((7 * i : Nat) : Int) + 7) = ((7 * (i + 1) : Nat) : Int) := by
          rw [wi64 (by omega)]; omega
        rw [hw]
        refine ⟨⟨i + 1, _, ⟨s9.at_ + 1, r, s9.used⟩, rfl, rfl, by omega, ?_, h12, e9.trans e12, hS⟩, by simp only [Int.toNat_natCast]; omega⟩
        have e : 2 ^ (7 * (i + 1)) = 128 * 2 ^ (7 * i) := by rw [Nat.mul_add, Nat.pow_add, Nat.mul_comm]
        rw [e]
        have h2 : x.toNat % 128 * 2 ^ (7 * i) ≤ 127 * 2 ^ (7 * i) := Nat.mul_le_mul_right _ (by omega)
        omega
omit ok in
theorem countS_lt {s s' : Pst} {n : Nat} (h : countS s = .ok n s') : n < 18446744073709551616 := (countS_ok h).1
omit ok in
theorem RdAt.rlen {s : Pst} {w : World} (h : RdAt C s w) : s.rest.length = C.b.length - s.at_ := by rw [h.rest, List.length_drop]
theorem many_c {s : Pst} {w : World} (h : RdAt C s w) {R : Ending → World → Prop} (k : Post C w (manyS s) (fun n s' w' => n ≤ 16777216 → R (.returned (.int .i64 (n : Int))) w') R) : Calls Tryz.prog 87 #[.pointer (some ⟨C.rb, 0, none⟩)] w R := by
  apply image_reader_many_nf
  have hle := ok.le
  refine ptr_in ⟨_, cadd h.blk rfl, count_c ok h ?_⟩
  unfold manyS at k
  cases hc : countS s with
  | err c p => rw [hc] at k; exact fun w' fa e hfa hb => .inr ⟨_, rfl, k w' fa e hfa hb⟩
  | ok n s1 =>
    rw [hc] at k
    simp only [Res.bind] at k
    refine fun w6 h6 e6 => .inl ⟨_, rfl, ?_⟩
    have hn := countS_lt hc
    have hrl := h6.rlen
    have ha := h6.at_
    refine ptr_in ⟨_, _, _, cadd h6.blk rfl, ptr_in ⟨_, cadd h6.blk rfl, ?_⟩⟩
    rw [wi64 (n := ((C.b.length : Nat) : Int) - (s1.at_ : Int)) (by omega), wu64 (n := ((C.b.length : Nat) : Int) - (s1.at_ : Int)) (by omega)]
    have d6 : Ext [] w6 w6.drew := (Ext.refl _ _).drew
    refine sel_dec (fun hgt => ?_) (fun hle2 => ?_)
    · rw [if_pos (by omega)] at k
      exact fail_c fun w' fa e hfa hb => .inr ⟨_, rfl, k w' fa (e6.trans (d6.trans e).up) (by have := e6.size; have : w6.drew.heap.size = w6.heap.size := rfl; omega) hb⟩
    · rw [if_neg (by omega)] at k
      rw [wi64 (n := (n : Int)) (by omega)]
      exact k _ (h6.stay ok d6 (by simp)) (e6.trans d6.up) (by omega)
theorem number_c {s : Pst} {w : World} (h : RdAt C s w) {R : Ending → World → Prop} (k : Post C w (numS s) (fun n s' w' => R (.returned (.int .i64 n)) w') R) : Calls Tryz.prog 88 #[.pointer (some ⟨C.rb, 0, none⟩)] w R := by
  apply image_reader_number_nf
  refine count_c ok h ?_
  unfold numS at k
  cases hc : countS s with
  | err c p => rw [hc] at k; exact fun w' fa e hfa hb => .inr ⟨_, rfl, k w' fa e hfa hb⟩
  | ok n s1 =>
    rw [hc] at k
    exact fun w6 h6 e6 => .inl ⟨_, rfl, lt_eq (num_back (countS_lt hc)) (k w6 h6 e6)⟩
theorem truth_c {s : Pst} {w : World} (h : RdAt C s w) {R : Ending → World → Prop} (k : Post C w (truthS s) (fun b s' w' => R (.returned (.bool b)) w') R) : Calls Tryz.prog 126 #[.pointer (some ⟨C.rb, 0, none⟩)] w R := by
  apply image_reader_truth_nf
  refine ptr_in ⟨_, cadd h.blk rfl, one_c ok h ?_⟩
  unfold truthS at k
  unfold oneS
  cases hr : s.rest with
  | nil => rw [hr] at k; exact fun w' fa e hfa hb => .inr ⟨_, rfl, k w' fa e hfa hb⟩
  | cons x r =>
    rw [hr] at k
    simp only [] at k
    have hxl := x.toNat_lt
    refine fun w6 h6 e6 => .inl ⟨_, rfl, sel_dec (fun hgt => ?_) (fun hle => ?_)⟩
    · rw [if_pos (by omega)] at k
      exact fail_c fun w' fa e hfa hb => .inr ⟨_, rfl, k w' fa (e6.trans e.up) (by have := e6.size; omega) hb⟩
    · rw [if_neg (by omega)] at k
      have := k w6 h6 e6
      have e : (((x.toNat : Nat) : Int) == 1) = decide (x.toNat = 1) := by
        rw [Bool.eq_iff_iff]; simp; omega
      rw [e]; exact this
theorem text_c {s : Pst} {w : World} (h : RdAt C s w) {R : Ending → World → Prop} (k : Post C w (textS C.T s) (fun t s' w' => t.size ≤ 16777216 → R (.returned (.string t)) w') R) : Calls Tryz.prog 119 #[.pointer (some ⟨C.rb, 0, none⟩)] w R := by
  apply image_reader_text_nf
  have hle := ok.le
  refine ptr_in ⟨_, cadd h.blk rfl, count_c ok h ?_⟩
  unfold textS at k
  cases hc : countS s with
  | err c p => rw [hc] at k; exact fun w' fa e hfa hb => .inr ⟨_, rfl, k w' fa e hfa hb⟩
  | ok n s1 =>
    rw [hc] at k
    simp only [Res.bind] at k
    refine fun w6 h6 e6 => .inl ⟨_, rfl, ?_⟩
    have hn := countS_lt hc
    have hTl : C.T.length ≤ maxLen := by
      have h1 := own_cap h6.t
      rcases Nat.eq_zero_or_pos C.T.length with h0 | h0
      · omega
      · obtain ⟨g, bs', _, _, _, _, hm, _⟩ := own_blk h6.t h0
        omega
    have hmx : maxLen ≤ 9223372036854775807 := by decide
    cases hT : C.T[n]? with
    | none =>
      rw [hT] at k
      have hge := List.getElem?_eq_none_iff.1 hT
      refine ⟨fun _ => False, ptr_in ⟨_, _, _, cadd h6.blk rfl, ?_⟩, fun _ _ h => h.elim⟩
      rw [wu64 (n := ((C.T.length : Nat) : Int)) (by omega)]
      exact sel_dec (fun _ => fail_c fun w' fa e hfa hb => .inr ⟨_, rfl, k w' fa (e6.trans e.up) (by have := e6.size; omega) hb⟩) (fun hlt => by omega)
    | some t =>
      rw [hT] at k
      obtain ⟨hlt, het⟩ := List.getElem?_eq_some_iff.1 hT
      refine ⟨fun w' => w' = w6, ptr_in ⟨_, _, _, cadd h6.blk rfl, ?_⟩, ?_⟩
      · rw [wu64 (n := ((C.T.length : Nat) : Int)) (by omega)]
        exact sel_dec (fun hge => by omega) (fun _ => rfl)
      rintro _ w14 rfl
      obtain ⟨g, w18, hUA, hs, hu, he⟩ := h6.u.set1 (P := Tryz.prog) (t := 4) (i := n) (y := true) (v := .bool true) hlt rfl rfl i1b rfl
      have hgF : ∀ x ∈ ownF C.UA, x ∈ C.F := fun x hx => by simp [RC.F, hx]
      have h18 : RdAt C { s1 with used := s1.used.set n true } w18 := ⟨h6.ex.trans' he (fun x hx => .inr (ok.uN x hx).1), Nat.le_trans h6.n he.size, h6.blk.ext he ok.rU, h6.t.ext he (fun x hx hm => ok.uT x hm hx), h6.st.ext he (fun x hx hm => ok.uS x hm hx), hu, h6.at_, h6.rest⟩
      refine ptr_in ⟨_, _, _, cadd h6.blk rfl, when_dec ⟨by omega, by omega⟩ ?_⟩
      have hUA' := hUA
      rw [hUA]
      refine ptr_in ⟨w18, by rw [Int.toNat_natCast]; exact hs, ptr_in ⟨_, _, _, cadd h18.blk rfl, when_dec ⟨by omega, by omega⟩ ?_⟩⟩
      obtain ⟨y, ad, hy, hTA, rd⟩ := h18.t.row (a := n) hlt
      rw [hT] at hy
      cases hy
      rw [hTA]
      refine ptr_in ⟨_, by have := rd 0 _ rfl; rw [Addr.add_zero'] at this; exact this, k w18 h18 (e6.trans (he.weaken fun x hx => .inl (hgF x hx))) (ok.ts t (List.mem_of_getElem? hT))⟩
end Go.Proofs.YtoaeefjcjdhlkaaGreat
