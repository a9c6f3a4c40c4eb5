/- Blocks of memory, what a call leaves as it was, and small laws on numbers: generic, no program. -/
import Derived.Test.YtoaeefjcjdhlkaaGreatV
import Derived.Below
set_option linter.unusedVariables false
set_option linter.unusedSimpArgs false
namespace Go.B
open Go.V Go.RowKit

theorem ptr_in {a : Addr} {K : Addr → Prop} (h : K a) : ptr (some a) K := h

/-! ### blocks -/
def Blk (w : World) (b : Nat) (cs : List Value) : Prop := ∃ T, w.heap[b]? = some (.cells ⟨cs⟩ T (0, 0))
theorem Blk.lt {w : World} {b : Nat} {cs : List Value} (h : Blk w b cs) : b < w.heap.size := by
  obtain ⟨T, h⟩ := h
  exact (Array.getElem?_eq_some_iff.1 h).1
theorem Blk.cell {w : World} {b : Nat} {cs : List Value} (h : Blk w b cs) {i : Nat} {v : Value} (hv : cs[i]? = some v) : w.cell? ⟨b, i, none⟩ = some v := by
  obtain ⟨T, h⟩ := h
  simp [World.cell?, h, hv]
theorem Blk.frozen {w : World} {b : Nat} {cs : List Value} (h : Blk w b cs) (i : Nat) : w.frozen? ⟨b, i, none⟩ = false := by
  obtain ⟨T, h⟩ := h
  simp [World.frozen?, h]
theorem Blk.set {w : World} {b : Nat} {cs : List Value} (h : Blk w b cs) (i : Nat) (v : Value) : Blk (w.setCell ⟨b, i, none⟩ v) b (cs.set i v) := by
  obtain ⟨T, h⟩ := h
  refine ⟨T, ?_⟩
  simp [World.setCell, Array.getElem?_modify, h]
theorem Blk.set_other {w : World} {b : Nat} {cs : List Value} (h : Blk w b cs) {a : Addr} (v : Value) (hb : a.block ≠ b) : Blk (w.setCell a v) b cs := by
  obtain ⟨T, h⟩ := h
  refine ⟨T, ?_⟩
  simp [World.setCell, Array.getElem?_modify, h, hb]
theorem Blk.alloc {w : World} {b : Nat} {cs : List Value} (h : Blk w b cs) (o : Obj) : Blk (w.alloc o) b cs := by
  have hlt := h.lt
  obtain ⟨T, h⟩ := h
  refine ⟨T, ?_⟩
  show (w.heap.push o)[b]? = _
  simp [Array.getElem?_push, Nat.ne_of_lt hlt, h]
theorem Blk.new (w : World) (cs : List Value) (T : TypeId) : Blk (w.alloc (.cells ⟨cs⟩ T)) w.heap.size cs := ⟨T, by show (w.heap.push _)[w.heap.size]? = _; simp⟩
theorem Blk.drew {w : World} {b : Nat} {cs : List Value} (h : Blk w b cs) : Blk w.drew b cs := h

/-- A block whose cells' type is known, too. -/
def BlkT (w : World) (b : Nat) (cs : List Value) (T : TypeId) : Prop := w.heap[b]? = some (.cells ⟨cs⟩ T (0, 0))
theorem BlkT.blk {w : World} {b : Nat} {cs : List Value} {T : TypeId} (h : BlkT w b cs T) : Blk w b cs := ⟨T, h⟩
theorem BlkT.lt {w : World} {b : Nat} {cs : List Value} {T : TypeId} (h : BlkT w b cs T) : b < w.heap.size := h.blk.lt
theorem BlkT.cell {w : World} {b : Nat} {cs : List Value} {T : TypeId} (h : BlkT w b cs T) {i : Nat} {v : Value} (hv : cs[i]? = some v) : w.cell? ⟨b, i, none⟩ = some v := h.blk.cell hv
theorem BlkT.frozen {w : World} {b : Nat} {cs : List Value} {T : TypeId} (h : BlkT w b cs T) (i : Nat) : w.frozen? ⟨b, i, none⟩ = false := h.blk.frozen i
theorem BlkT.set {w : World} {b : Nat} {cs : List Value} {T : TypeId} (h : BlkT w b cs T) (i : Nat) (v : Value) : BlkT (w.setCell ⟨b, i, none⟩ v) b (cs.set i v) T := by
  unfold BlkT at h ⊢
  simp [World.setCell, Array.getElem?_modify, h]
theorem BlkT.set_other {w : World} {b : Nat} {cs : List Value} {T : TypeId} (h : BlkT w b cs T) {a : Addr} (v : Value) (hb : a.block ≠ b) : BlkT (w.setCell a v) b cs T := by
  unfold BlkT at h ⊢
  simp [World.setCell, Array.getElem?_modify, h, hb]
theorem BlkT.alloc {w : World} {b : Nat} {cs : List Value} {T : TypeId} (h : BlkT w b cs T) (o : Obj) : BlkT (w.alloc o) b cs T := by
  have hlt := h.lt
  unfold BlkT at h ⊢
  show (w.heap.push o)[b]? = _
  simp [Array.getElem?_push, Nat.ne_of_lt hlt, h]
theorem BlkT.new (w : World) (cs : List Value) (T : TypeId) : BlkT (w.alloc (.cells ⟨cs⟩ T)) w.heap.size cs T := by
  show (w.heap.push _)[w.heap.size]? = _; simp

/-! ### what is left as it was -/
structure Ext (F : List Nat) (w w' : World) : Prop where
  os : w'.os = w.os
  tape : w'.tape = w.tape
  output : w'.output = w.output
  size : w.heap.size ≤ w'.heap.size
  same : ∀ b, b < w.heap.size → b ∉ F → w'.heap[b]? = w.heap[b]?
theorem Ext.refl (F : List Nat) (w : World) : Ext F w w := ⟨rfl, rfl, rfl, Nat.le_refl _, fun _ _ _ => rfl⟩
theorem Ext.trans' {F G : List Nat} {a b c : World} (h : Ext F a b) (k : Ext G b c) (hg : ∀ x ∈ G, x ∈ F ∨ a.heap.size ≤ x) : Ext F a c :=
  ⟨k.os.trans h.os, k.tape.trans h.tape, k.output.trans h.output, Nat.le_trans h.size k.size, fun x hx hF =>
    (k.same x (Nat.lt_of_lt_of_le hx h.size) (fun hG => (hg x hG).elim hF (fun h' => by omega))).trans (h.same x hx hF)⟩
theorem Ext.trans {F : List Nat} {a b c : World} (h : Ext F a b) (k : Ext F b c) : Ext F a c := h.trans' k fun _ hx => .inl hx
theorem Ext.then {F : List Nat} {a b c : World} (h : Ext F a b) (k : Ext [] b c) : Ext F a c := h.trans' k fun _ hx => by cases hx
theorem Ext.weaken {F G : List Nat} {a b : World} (h : Ext F a b) (hg : ∀ x ∈ F, x ∈ G ∨ a.heap.size ≤ x) : Ext G a b :=
  (Ext.refl G a).trans' h hg
theorem Ext.drew {F : List Nat} {a b : World} (h : Ext F a b) : Ext F a b.drew := ⟨h.os, h.tape, h.output, h.size, h.same⟩
theorem Ext.drewN {F : List Nat} {a b : World} (h : Ext F a b) (n : Nat) : Ext F a (b.drewN n) := ⟨h.os, h.tape, h.output, h.size, h.same⟩
theorem Ext.alloc {F : List Nat} {a b : World} (h : Ext F a b) (o : Obj) : Ext F a (b.alloc o) :=
  ⟨h.os, h.tape, h.output, by rw [World.size_alloc]; exact Nat.le_succ_of_le h.size, fun x hx hF => by
    rw [← h.same x hx hF]
    have : x < b.heap.size := Nat.lt_of_lt_of_le hx h.size
    show (b.heap.push o)[x]? = _
    simp [Array.getElem?_push, Nat.ne_of_lt this]⟩
theorem Ext.setCell {F : List Nat} {a b : World} (h : Ext F a b) (ad : Addr) (v : Value) (hb : ad.block ∈ F ∨ a.heap.size ≤ ad.block) : Ext F a (b.setCell ad v) :=
  ⟨h.os, h.tape, h.output, by rw [World.size_setCell]; exact h.size, fun x hx hF => by
    have : ad.block ≠ x := fun e => by subst e; exact hb.elim hF (fun h' => by omega)
    rw [← h.same x hx hF]
    simp [World.setCell, Array.getElem?_modify, this]⟩
theorem Blk.ext {F : List Nat} {w w' : World} {b : Nat} {cs : List Value} (h : Blk w b cs) (e : Ext F w w') (hb : b ∉ F) : Blk w' b cs := by
  have hlt := h.lt
  obtain ⟨T, h⟩ := h
  exact ⟨T, by rw [e.same b hlt hb]; exact h⟩
theorem BlkT.ext {F : List Nat} {w w' : World} {b : Nat} {cs : List Value} {T : TypeId} (h : BlkT w b cs T) (e : Ext F w w') (hb : b ∉ F) : BlkT w' b cs T := by
  unfold BlkT at h ⊢
  rw [e.same b (Array.getElem?_eq_some_iff.1 h).1 hb]; exact h
theorem Ext.below {w w' : World} (h : Ext [] w w') : Below w.heap.size w w' := ⟨h.os, h.tape, h.output, h.size, fun i hi => h.same i hi (by simp)⟩
theorem cell_ext {F : List Nat} {w w' : World} (e : Ext F w w') {a : Addr} {v : Value} (h : w.cell? a = some v) (hb : a.block ∉ F) : w'.cell? a = some v := by
  have hlt := World.block_lt_of_cell? w a h
  have := e.same a.block hlt hb
  unfold World.cell? at h ⊢
  rw [this]; exact h

/-! ### a slice of whole numbers that is read -/
structure Ints (w : World) (k : IntKind) (A : Option Addr) (n : Nat) (xs : List Int) : Prop where
  len : xs.length = n
  cells : ∀ j, j < n → ∃ ad : Addr, A = some ad ∧ w.cell? (ad.add j) = some (.int k (xs.getD j 0))
theorem Ints.nil (w : World) (k : IntKind) (A : Option Addr) : Ints w k A 0 [] := ⟨rfl, fun j hj => by omega⟩
theorem Ints.ext {F : List Nat} {w w' : World} {k : IntKind} {A : Option Addr} {n : Nat} {xs : List Int} (h : Ints w k A n xs) (e : Ext F w w') (hb : ∀ ad, A = some ad → ad.block ∉ F) : Ints w' k A n xs :=
  ⟨h.len, fun j hj => by
    obtain ⟨ad, ha, hc⟩ := h.cells j hj
    refine ⟨ad, ha, cell_ext e hc ?_⟩
    have : (ad.add j).block = ad.block := by unfold Addr.add; split <;> rfl
    rw [this]; exact hb ad ha⟩
theorem Ints.ext0 {w w' : World} {k : IntKind} {A : Option Addr} {n : Nat} {xs : List Int} (h : Ints w k A n xs) (e : Ext [] w w') : Ints w' k A n xs := h.ext e (by simp)
def ints (k : IntKind) (xs : List Int) : List Value := xs.map (Value.int k)
@[simp] theorem ints_length (k : IntKind) (xs : List Int) : (ints k xs).length = xs.length := by simp [ints]
theorem ints_get {k : IntKind} {xs : List Int} {j : Nat} (h : j < xs.length) : (ints k xs)[j]? = some (.int k (xs.getD j 0)) := by
  simp [ints, h, List.getD_eq_getElem?_getD]
theorem ints_set (k : IntKind) (xs : List Int) (j : Nat) (x : Int) : (ints k xs).set j (.int k x) = ints k (xs.set j x) := by
  simp [ints, List.map_set]
theorem Addr.add0 (b n : Nat) : (⟨b, 0, none⟩ : Addr).add n = ⟨b, n, none⟩ := by rw [Addr.add_lit]; simp
theorem Addr.addAdd (b n : Nat) : ((⟨b, 0, none⟩ : Addr).add n).add 0 = ⟨b, n, none⟩ := by rw [Addr.add_zero', Addr.add0]
/-- Read out of a block whose first cells these are. -/
theorem Ints.of_blk {w : World} {k : IntKind} {b : Nat} {cs : List Value} {xs : List Int} (h : Blk w b cs) (hc : ∀ j, j < xs.length → cs[j]? = some (.int k (xs.getD j 0))) : Ints w k (some ⟨b, 0, none⟩) xs.length xs :=
  ⟨rfl, fun j hj => ⟨_, rfl, by rw [Addr.add0]; exact h.cell (hc j hj)⟩⟩

/-! ### numbers -/
theorem w64 {x : Int} (h0 : -9223372036854775808 ≤ x) (h1 : x ≤ 9223372036854775807) : IntKind.wrap .i64 x = x := Go.IntWalk.i64_in _ (by omega)
theorem u64 {x : Int} (h0 : 0 ≤ x) (h1 : x < 18446744073709551616) : IntKind.wrap .u64 x = x := by
  unfold IntKind.wrap
  simp only [IntKind.bits, IntKind.signed, Bool.false_and, Bool.false_eq_true, if_false]
  omega
theorem up64 (n : Nat) (h : n < 4611686018427387904) : IntKind.wrap .i64 ((n : Int) + 1) = ((n + 1 : Nat) : Int) := by rw [w64 (by omega) (by omega)]; omega
theorem down {M n : Nat} (h : n < M) : M - Int.toNat ((n + 1 : Nat) : Int) < M - Int.toNat (n : Int) := by omega
theorem tdiv_nat (k n : Nat) : Int.tdiv (k : Int) (n : Int) = ((k / n : Nat) : Int) := by rw [Int.ofNat_tdiv]
theorem tmod_nat (k n : Nat) : Int.tmod (k : Int) (n : Int) = ((k % n : Nat) : Int) := by rw [Int.ofNat_tmod]
theorem tdiv64 (k : Nat) : Int.tdiv (k : Int) 64 = ((k / 64 : Nat) : Int) := tdiv_nat k 64
theorem tmod64 (k : Nat) : Int.tmod (k : Int) 64 = ((k % 64 : Nat) : Int) := tmod_nat k 64
theorem bv_nat (x : Nat) : BitVec.ofInt 64 (x : Int) = BitVec.ofNat 64 x := by simp
theorem or64 {x y : Nat} (hx : x < 18446744073709551616) (hy : y < 18446744073709551616) : IntKind.wrap .u64 ((BitVec.toNat (BitVec.ofInt 64 (x : Int) ||| BitVec.ofInt 64 (y : Int)) : Nat) : Int) = ((x ||| y : Nat) : Int) := by
  rw [bv_nat, bv_nat, BitVec.toNat_or, BitVec.toNat_ofNat, BitVec.toNat_ofNat, Nat.mod_eq_of_lt hx, Nat.mod_eq_of_lt hy]
  have := Nat.or_lt_two_pow (n := 64) hx hy
  exact u64 (by omega) (by omega)
theorem and64 {x y : Nat} (hx : x < 18446744073709551616) (hy : y < 18446744073709551616) : IntKind.wrap .u64 ((BitVec.toNat (BitVec.ofInt 64 (x : Int) &&& BitVec.ofInt 64 (y : Int)) : Nat) : Int) = ((x &&& y : Nat) : Int) := by
  rw [bv_nat, bv_nat, BitVec.toNat_and, BitVec.toNat_ofNat, BitVec.toNat_ofNat, Nat.mod_eq_of_lt hx, Nat.mod_eq_of_lt hy]
  have := Nat.and_lt_two_pow x (n := 64) hy
  exact u64 (by omega) (by omega)
theorem xor64 {x y : Nat} (hx : x < 18446744073709551616) (hy : y < 18446744073709551616) : IntKind.wrap .u64 ((BitVec.toNat (BitVec.ofInt 64 (x : Int) ^^^ BitVec.ofInt 64 (y : Int)) : Nat) : Int) = ((x ^^^ y : Nat) : Int) := by
  rw [bv_nat, bv_nat, BitVec.toNat_xor, BitVec.toNat_ofNat, BitVec.toNat_ofNat, Nat.mod_eq_of_lt hx, Nat.mod_eq_of_lt hy]
  have := Nat.xor_lt_two_pow (n := 64) hx hy
  exact u64 (by omega) (by omega)
/-- 'x &^ y' -/
def andNot (x y : Nat) : Nat := x &&& (18446744073709551615 - y)
theorem andNot64 {x y : Nat} (hx : x < 18446744073709551616) (hy : y < 18446744073709551616) : IntKind.wrap .u64 ((BitVec.toNat (BitVec.ofInt 64 (x : Int) &&& ~~~(BitVec.ofInt 64 (y : Int))) : Nat) : Int) = ((andNot x y : Nat) : Int) := by
  rw [bv_nat, bv_nat, BitVec.toNat_and, BitVec.toNat_not, BitVec.toNat_ofNat, BitVec.toNat_ofNat, Nat.mod_eq_of_lt hx, Nat.mod_eq_of_lt hy]
  have e : (2 ^ 64 - 1 - y) = 18446744073709551615 - y := by omega
  rw [e]
  have := Nat.and_lt_two_pow x (n := 64) (show 18446744073709551615 - y < 2 ^ 64 by omega)
  exact u64 (by omega) (by omega)
theorem andNot_lt {x y : Nat} (hx : x < 18446744073709551616) : andNot x y < 18446744073709551616 := by
  unfold andNot
  have := Nat.and_le_left (n := x) (m := 18446744073709551615 - y)
  omega
theorem andNot_bit {x y : Nat} (hy : y < 18446744073709551616) (i : Nat) (hi : i < 64) : (andNot x y).testBit i = (x.testBit i && !y.testBit i) := by
  unfold andNot
  have e : 18446744073709551615 - y = 2 ^ 64 - (y + 1) := by omega
  rw [Nat.testBit_and, e, Nat.testBit_two_pow_sub_succ (by omega)]
  simp [hi]
theorem shl1 (k : Nat) (h : k < 64) : IntKind.wrap .u64 (1 * 2 ^ (min k 64)) = ((2 ^ k : Nat) : Int) := by
  have e : min k 64 = k := by omega
  rw [e, Int.one_mul]
  have h2 : (2 : Nat) ^ k < 2 ^ 64 := Nat.pow_lt_pow_right (by omega) h
  have e2 : ((2 : Int) ^ k) = ((2 ^ k : Nat) : Int) := by norm_cast
  rw [e2]
  exact u64 (Int.natCast_nonneg _) (Int.ofNat_lt.2 h2)
theorem shr_nat (x k : Nat) (h : k < 64) : Int.fdiv (x : Int) (2 ^ (min k 64)) = ((x >>> k : Nat) : Int) := by
  have e : min k 64 = k := by omega
  rw [e]
  have e2 : ((2 : Int) ^ k) = ((2 ^ k : Nat) : Int) := by norm_cast
  rw [e2, Nat.shiftRight_eq_div_pow]
  rw [Int.fdiv_eq_ediv_of_nonneg _ (Int.natCast_nonneg _)]
  rfl
theorem pow_lt64 {k : Nat} (h : k < 64) : 2 ^ k < 18446744073709551616 := by
  have : (2 : Nat) ^ k < 2 ^ 64 := Nat.pow_lt_pow_right (by omega) h
  omega
end Go.B
