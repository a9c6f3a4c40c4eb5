/- Sets of places in memory, and what the calls of package bitset do: reading calls, and calls that answer a new set. -/
import Derived.Test.YtpipenkaaodlgaaGreatDoorB
import Derived.Test.YtpipenkaaodlgaaGreatDoorNA
set_option linter.unusedVariables false
set_option linter.unusedSimpArgs false
namespace Go.Proofs.YtpipenkaaodlgaaGreatDoor
open Go Go.V Go.B

/-- A set as the program keeps it: its universe and its words. -/
structure SetV where
  N : Nat
  ws : List Nat
def SetV.mem (S : SetV) (i : Nat) : Bool := (S.ws.getD (i / 64) 0).testBit (i % 64)
def SetV.nil : SetV := ⟨0, []⟩
structure SetV.Ok (S : SetV) : Prop where
  N : S.N ≤ 65536
  len : S.ws.length = (S.N + 63) / 64
  lt : ∀ i, S.ws.getD i 0 < 18446744073709551616
  tail : ∀ i, S.N ≤ i → S.mem i = false
theorem SetV.Ok.nil : SetV.Ok SetV.nil := ⟨by simp [SetV.nil], by simp [SetV.nil], by simp [SetV.nil], by simp [SetV.nil, SetV.mem]⟩
theorem SetV.Ok.mem_lt {S : SetV} (h : S.Ok) {i : Nat} (hm : S.mem i = true) : i < S.N := by
  rcases Nat.lt_or_ge i S.N with h' | h'
  · exact h'
  · rw [h.tail i h'] at hm; cases hm
/-- Two sets of one universe with the same members are one. -/
theorem SetV.ext_mem {A B : SetV} (ha : A.Ok) (hb : B.Ok) (hN : A.N = B.N) (h : ∀ i, A.mem i = B.mem i) : A = B := by
  obtain ⟨N, ws⟩ := A
  obtain ⟨N', ws'⟩ := B
  obtain rfl : N = N' := hN
  congr 1
  have h1 := ha.len
  have h2 := hb.len
  simp only at h1 h2
  apply List.ext_getElem (by omega)
  intro k hk hk'
  apply Nat.eq_of_testBit_eq
  intro j
  have e1 : ws[k] = ws.getD k 0 := by simp [List.getD_eq_getElem?_getD, hk]
  have e2 : ws'[k] = ws'.getD k 0 := by simp [List.getD_eq_getElem?_getD, hk']
  rw [e1, e2]
  rcases Nat.lt_or_ge j 64 with hj | hj
  · have := h (64 * k + j)
    simp only [SetV.mem] at this
    rwa [show (64 * k + j) / 64 = k by omega, show (64 * k + j) % 64 = j by omega] at this
  · have l1 := ha.lt k
    have l2 := hb.lt k
    have p : (18446744073709551616 : Nat) ≤ 2 ^ j := by
      have : (2 : Nat) ^ 64 ≤ 2 ^ j := Nat.pow_le_pow_right (by omega) hj
      omega
    rw [Nat.testBit_lt_two_pow (Nat.lt_of_lt_of_le l1 p), Nat.testBit_lt_two_pow (Nat.lt_of_lt_of_le l2 p)]

def wcells (ws : List Nat) : List Value := ws.map fun (x : Nat) => Value.int .u64 (x : Int)
theorem wcells_get {ws : List Nat} {i : Nat} (h : i < ws.length) : (wcells ws)[i]? = some (.int .u64 ((ws.getD i 0 : Nat) : Int)) := by
  simp [wcells, h, List.getD_eq_getElem?_getD]
theorem wcells_set (ws : List Nat) (i x : Nat) : (wcells ws).set i (.int .u64 (x : Int)) = wcells (ws.set i x) := by
  simp [wcells, List.map_set]
theorem wcells_length (ws : List Nat) : (wcells ws).length = ws.length := by simp [wcells]

/-- The set stands at block p, its words at block bw. -/
structure SetAt (w : World) (p bw : Nat) (S : SetV) : Prop where
  hdr : Blk w p [.int .i64 (S.N : Int), .slice (some ⟨bw, 0, none⟩) S.ws.length S.ws.length]
  wrd : BlkT w bw (wcells S.ws) 104
  ok : S.Ok
  ne : p ≠ bw
theorem SetAt.ext {F : List Nat} {w w' : World} {p bw : Nat} {S : SetV} (h : SetAt w p bw S) (e : Ext F w w') (hp : p ∉ F) (hb : bw ∉ F) : SetAt w' p bw S :=
  ⟨h.hdr.ext e hp, h.wrd.ext e hb, h.ok, h.ne⟩
theorem SetAt.ext0 {w w' : World} {p bw : Nat} {S : SetV} (h : SetAt w p bw S) (e : Ext [] w w') : SetAt w' p bw S := h.ext e (by simp) (by simp)
theorem SetAt.size {w : World} {p bw : Nat} {S : SetV} (h : SetAt w p bw S) : w.cell? (Addr.add ⟨p, 0, none⟩ 0) = some (.int .i64 (S.N : Int)) := by
  rw [Addr.add0]; exact h.hdr.cell rfl
theorem SetAt.words {w : World} {p bw : Nat} {S : SetV} (h : SetAt w p bw S) : w.cell? (Addr.add ⟨p, 0, none⟩ 1) = some (.slice (some ⟨bw, 0, none⟩) S.ws.length S.ws.length) := by
  rw [Addr.add0]; exact h.hdr.cell rfl
theorem SetAt.word {w : World} {p bw : Nat} {S : SetV} (h : SetAt w p bw S) {i : Nat} (hi : i < S.ws.length) : w.cell? (Addr.add ⟨bw, 0, none⟩ i) = some (.int .u64 ((S.ws.getD i 0 : Nat) : Int)) := by
  rw [Addr.add0]; exact h.wrd.cell (wcells_get hi)

/-- A reference to a set: nil, or a set that stands in memory; the blocks that it takes. -/
def RefAt (w : World) (q : Option Addr) (S : SetV) (f : List Nat) : Prop :=
  (q = none ∧ S = SetV.nil ∧ f = []) ∨ ∃ p bw, q = some ⟨p, 0, none⟩ ∧ SetAt w p bw S ∧ f = [p, bw]
theorem SetAt.ref {w : World} {p bw : Nat} {S : SetV} (h : SetAt w p bw S) : RefAt w (some ⟨p, 0, none⟩) S [p, bw] := .inr ⟨p, bw, rfl, h, rfl⟩
theorem RefAt.nil (w : World) : RefAt w none SetV.nil [] := .inl ⟨rfl, rfl, rfl⟩
theorem RefAt.ok {w : World} {q : Option Addr} {S : SetV} {f : List Nat} (h : RefAt w q S f) : S.Ok := by
  rcases h with ⟨rfl, rfl, rfl⟩ | ⟨p, bw, rfl, hs, rfl⟩
  · exact SetV.Ok.nil
  · exact hs.ok
theorem RefAt.ext {F : List Nat} {w w' : World} {q : Option Addr} {S : SetV} {f : List Nat} (h : RefAt w q S f) (e : Ext F w w') (hf : ∀ b ∈ f, b ∉ F) : RefAt w' q S f := by
  rcases h with h | ⟨p, bw, rfl, hs, rfl⟩
  · exact .inl h
  · exact .inr ⟨p, bw, rfl, hs.ext e (hf p (by simp)) (hf bw (by simp)), rfl⟩
theorem RefAt.ext0 {w w' : World} {q : Option Addr} {S : SetV} {f : List Nat} (h : RefAt w q S f) (e : Ext [] w w') : RefAt w' q S f := h.ext e (by simp)

theorem wordCount_c (n : Nat) (h : n ≤ 70000) {w : World} {R : Ending → World → Prop} (k : R (.returned (.int .i64 (((n + 63) / 64 : Nat) : Int))) w) :
    Calls Tryz.prog 76 #[.int .i64 (n : Int)] w R := by
  apply bitset_wordCount_nf
  have e : IntKind.wrap .i64 (Int.tdiv (IntKind.wrap .i64 ((n : Int) + 63)) 64) = (((n + 63) / 64 : Nat) : Int) := by
    rw [show IntKind.wrap .i64 ((n : Int) + 63) = ((n + 63 : Nat) : Int) by rw [w64 (by omega) (by omega)]; omega, tdiv64, w64 (by omega) (by omega)]
  rw [e]
  exact k
theorem Size_c {w : World} {q : Option Addr} {S : SetV} {f : List Nat} (h : RefAt w q S f) {R : Ending → World → Prop} (k : R (.returned (.int .i64 (S.N : Int))) w) :
    Calls Tryz.prog 51 #[.pointer q] w R := by
  apply bitset_Set_Size_nf
  rcases h with ⟨rfl, rfl, rfl⟩ | ⟨p, bw, rfl, hs, rfl⟩
  · exact sel_true rfl k
  · exact sel_false rfl (ptr_in ⟨_, hs.size, k⟩)
theorem word_c {w : World} {q : Option Addr} {S : SetV} {f : List Nat} (h : RefAt w q S f) (i : Nat) {R : Ending → World → Prop} (k : R (.returned (.int .u64 ((S.ws.getD i 0 : Nat) : Int))) w) :
    Calls Tryz.prog 60 #[.pointer q, .int .i64 (i : Int)] w R := by
  apply bitset_Set_word_nf
  rcases h with ⟨rfl, rfl, rfl⟩ | ⟨p, bw, rfl, hs, rfl⟩
  · exact sel_true rfl k
  · refine sel_false rfl (ptr_in ⟨_, _, _, hs.words, sel_dec (fun hge => ?_) (fun hlt => ?_)⟩)
    · have : S.ws.getD i 0 = 0 := by
        have : S.ws.length ≤ i := by omega
        simp [List.getD_eq_getElem?_getD, this]
      rw [this] at k; exact k
    · simp only [Int.toNat_natCast, Nat.mul_one]
      exact ptr_in ⟨_, _, _, hs.words, when_dec ⟨by omega, by omega⟩ (ptr_in ⟨_, hs.word (by omega), k⟩)⟩
theorem inside_c {w : World} {q : Option Addr} {S : SetV} {f : List Nat} (h : RefAt w q S f) (i : Int) {R : Ending → World → Prop} (k : R (.returned (.bool (decide (0 ≤ i ∧ i < (S.N : Int))))) w) :
    Calls Tryz.prog 55 #[.pointer q, .int .i64 i] w R := by
  apply bitset_Set_inside_nf
  refine sel_dec (fun h0 => ?_) (fun h0 => ?_)
  · refine Size_c h ⟨_, rfl, ?_⟩
    have e : decide (0 ≤ i ∧ i < (S.N : Int)) = decide (i < (S.N : Int)) := by
      rw [Bool.eq_iff_iff]; simp; omega
    rw [e] at k; exact k
  · have e : decide (0 ≤ i ∧ i < (S.N : Int)) = false := by simp; omega
    rw [e] at k; exact k
def SetV.has (S : SetV) (i : Int) : Bool := decide (0 ≤ i) && S.mem i.toNat
theorem SetV.has_nat (S : SetV) (i : Nat) : S.has (i : Int) = S.mem i := by simp [SetV.has]
theorem Has_c {w : World} {q : Option Addr} {S : SetV} {f : List Nat} (h : RefAt w q S f) (i : Int) {R : Ending → World → Prop} (k : R (.returned (.bool (S.has i))) w) :
    Calls Tryz.prog 27 #[.pointer q, .int .i64 i] w R := by
  apply bitset_Set_Has_nf
  have hok := h.ok
  refine inside_c h i ⟨_, rfl, sel_dec (fun h0 => ?_) (fun h0 => ?_)⟩
  · obtain ⟨n, rfl⟩ : ∃ n : Nat, i = n := ⟨i.toNat, by omega⟩
    rcases h with ⟨rfl, rfl, rfl⟩ | ⟨p, bw, rfl, hs, rfl⟩
    · simp [SetV.nil] at h0; omega
    have hn : n < S.N := by omega
    have hl := hok.len
    have hN := hok.N
    have hlt := hok.lt (n / 64)
    have e1 : IntKind.wrap .i64 (Int.tdiv (n : Int) 64) = ((n / 64 : Nat) : Int) := by rw [tdiv64, w64 (by omega) (by omega)]
    refine ptr_in ⟨_, _, _, hs.words, ?_⟩
    simp only [e1, tmod64, Int.toNat_natCast, Nat.mul_one]
    refine when_dec ⟨by omega, by omega⟩ (ptr_in ⟨_, hs.word (by omega), when_dec (by omega) ?_⟩)
    rw [shr_nat _ _ (by omega)]
    rw [SetV.has_nat] at k
    have e2 := and64 (x := S.ws.getD (n / 64) 0 >>> (n % 64)) (y := 1) (Nat.lt_of_le_of_lt (Nat.shiftRight_le _ _) hlt) (by omega)
    rw [show (((1 : Nat)) : Int) = 1 from rfl] at e2
    rw [e2]
    have e3 : (((S.ws.getD (n / 64) 0 >>> (n % 64) &&& 1 : Nat) : Int) == 1) = S.mem n := by
      unfold SetV.mem Nat.testBit
      rw [Nat.and_comm, Bool.eq_iff_iff]
      simp only [beq_iff_eq, bne_iff_ne, ne_eq]
      have : 1 &&& S.ws.getD (n / 64) 0 >>> (n % 64) ≤ 1 := Nat.and_le_left
      omega
    rw [e3]; exact k
  · have e : S.has i = false := by
      unfold SetV.has
      rcases Int.lt_or_le i 0 with hi | hi
      · have : ¬ 0 ≤ i := by omega
        simp [this]
      · rw [hok.tail i.toNat (by omega)]; simp
    rw [e] at k; exact k
end Go.Proofs.YtpipenkaaodlgaaGreatDoor
