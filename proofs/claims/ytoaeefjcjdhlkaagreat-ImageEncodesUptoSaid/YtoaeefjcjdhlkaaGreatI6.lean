/- Image: the writer gathers texts; the writer writes bytes. -/
import Derived.Test.YtoaeefjcjdhlkaaGreatI5
set_option linter.unusedVariables false
set_option linter.unusedSimpArgs false
namespace Go.Proofs.YtoaeefjcjdhlkaaGreat
open Go Go.V Go.B

def BL : Lay UInt8 := ⟨fun x => [.int .u8 (x.toNat : Int)], 1, fun _ => rfl, fun x v hv => by simp at hv; subst hv; rfl, by omega⟩
theorem uB : Tryz.prog.underlying 28 = some (.slice 5) := by kernel_rfl
theorem iB : (Tryz.prog.info? 5).map (fun i => (i.zero, i.size, i.bytes)) = some (some (.int .u8 0), 1, 1) := by kernel_rfl
theorem i1sl : (Tryz.prog.info? 28).map (·.size) = some 1 := by kernel_rfl
theorem i1b : (Tryz.prog.info? 4).map (·.size) = some 1 := by kernel_rfl
theorem uM : Tryz.prog.underlying 75 = some (.map 9 3) := by kernel_rfl
theorem kS : KeyT Tryz.prog 9 Value.string := keyString (by kernel_rfl)
theorem zI : ∀ w, (zeroValue 3).run Tryz.prog w = .ok (.int .i64 0) w := fun w => by kernel_rfl

/-! ### arithmetic of the writer -/
set_option maxRecDepth 20000 in
theorem bv8or : ∀ x : Fin 256, (BitVec.ofNat 8 x.val ||| BitVec.ofInt 8 128).toNat = x.val % 128 + 128 := by decide
theorem wu8 (n : Int) : IntKind.wrap .u8 n = n % 256 := by
  simp only [IntKind.wrap, IntKind.bits, IntKind.signed]
  simp
theorem low_byte (n : Nat) : IntKind.wrap .u8 ((BitVec.toNat (BitVec.ofInt 8 (IntKind.wrap .u8 ((n : Int))) ||| BitVec.ofInt 8 128) : Nat) : Int) = ((n % 128 + 128 : Nat) : Int) := by
  rw [wu8 (n : Int), show ((n : Int) % 256) = ((n % 256 : Nat) : Int) by omega, BitVec.ofInt_natCast]
  have := bv8or ⟨n % 256, by omega⟩
  simp only at this
  rw [this, wu8]
  omega
theorem fdiv7 (n : Nat) : Int.fdiv (n : Int) (2 ^ 7) = ((n / 128 : Nat) : Int) := by
  rw [Int.fdiv_eq_ediv_of_nonneg _ (by decide)]
  norm_cast
theorem wu64' (n : Int) : IntKind.wrap .u64 n = n % 18446744073709551616 := by
  simp only [IntKind.wrap, IntKind.bits, IntKind.signed]
  simp
theorem num_code {n : Int} (h : -9223372036854775808 ≤ n ∧ n < 9223372036854775808) :
    IntKind.wrap .u64 ((BitVec.toNat (BitVec.ofInt 64 (IntKind.wrap .u64 ((IntKind.wrap .u64 (n)) * 2 ^ 1)) ^^^ BitVec.ofInt 64 (IntKind.wrap .u64 ((Int.fdiv n (2 ^ 63))))) : Nat) : Int) = ((numCode n : Nat) : Int) := by
  simp only [wu64']
  rw [Int.fdiv_eq_ediv_of_nonneg _ (by decide)]
  unfold numCode
  by_cases h0 : 0 ≤ n
  · have e1 : n % 18446744073709551616 * 2 ^ 1 % 18446744073709551616 = ((2 * n.toNat : Nat) : Int) := by omega
    have e2 : n / 2 ^ 63 % 18446744073709551616 = 0 := by omega
    rw [if_pos h0, e1, e2, BitVec.ofInt_natCast]
    rw [show BitVec.ofInt 64 0 = 0#64 from rfl, BitVec.xor_zero, BitVec.toNat_ofNat]
    omega
  · have e1 : n % 18446744073709551616 * 2 ^ 1 % 18446744073709551616 = (((2 * n + 18446744073709551616).toNat : Nat) : Int) := by omega
    have e2 : n / 2 ^ 63 % 18446744073709551616 = 18446744073709551615 := by omega
    rw [if_neg h0, e1, e2, BitVec.ofInt_natCast]
    rw [show BitVec.ofInt 64 18446744073709551615 = BitVec.allOnes 64 by decide, BitVec.xor_allOnes, BitVec.toNat_not, BitVec.toNat_ofNat]
    omega

/-! ### gathering -/
/-- All lie below 2^62. -/
def SmallM (m : List (ByteArray × Int)) : Prop := ∀ k x, mget m k = some x → 0 ≤ x ∧ x < 4611686018427387904
theorem SmallM.put {m : List (ByteArray × Int)} (h : SmallM m) {k : ByteArray} {x : Int} (hx : 0 ≤ x ∧ x < 4611686018427387904) : SmallM (mput m k x) := fun k' y hy => by
  rw [mget_mput] at hy
  split at hy
  · cases hy; exact hx
  · exact h k' y hy
structure GAt (W : World) (wb mb : Nat) (F : List Nat) (ps : List Piece) (w : World) : Prop where
  f : F = [wb, mb]
  ex : Ext [] W w
  wW : W.heap.size ≤ wb
  mW : W.heap.size ≤ mb
  ne : wb ≠ mb
  blk : BlkT w wb [.map (some mb), .bool true, .slice none 0 0] 77
  mp : ∃ m : List (ByteArray × Int), MapAt w mb Value.string (Value.int .i64) m ∧ (∀ s, s ∈ mkeys m ↔ s ∈ texts ps) ∧ SmallM m
theorem GAt.mono {W w : World} {wb mb : Nat} {F : List Nat} {ps : List Piece} {p : Piece} (h : GAt W wb mb F ps w) (hp : textOf p = none) : GAt W wb mb F (ps ++ [p]) w := by
  obtain ⟨m, h1, h2, h3⟩ := h.mp
  exact ⟨h.f, h.ex, h.wW, h.mW, h.ne, h.blk, m, h1, fun s => by rw [h2, texts_app]; simp [texts, hp], h3⟩
theorem GAt.count {W w : World} {wb mb : Nat} {F : List Nat} {ps : List Piece} (h : GAt W wb mb F ps w) (n : Int) {R : Ending → World → Prop} (k : R (.returned undef) w) : Calls Tryz.prog 32 #[.pointer (some ⟨wb, 0, none⟩), .int .u64 n] w R := by
  apply image_writer_count_nf
  exact ptr_in ⟨_, cadd h.blk rfl, sel_true rfl k⟩
theorem gath (W : World) (wb mb M : Nat) : ∃ G : Wtr W wb M, ∀ F ps w, G.At F ps w ↔ GAt W wb mb F ps w := by
  refine ⟨⟨GAt W wb mb, fun h => h.ex, fun h b hb => ?_, fun {F ps w w' G} h e hG => ?_, fun {F ps w R n} h hn hl k => h.count _ (k w F (h.mono rfl) (Ext.refl _ _) (Grow.refl _ _)), fun {F ps w n R} h hn hl k => ?_, fun {F ps w b R} h hl k => ?_, fun {F ps w s R} h hs hl k => ?_⟩, fun _ _ _ => Iff.rfl⟩
  · rw [h.f] at hb
    obtain ⟨m, h1, _⟩ := h.mp
    simp at hb
    rcases hb with rfl | rfl
    · exact h.blk.lt
    · exact h1.lt
  · obtain ⟨m, h1, h2, h3⟩ := h.mp
    have hwl := h.blk.lt
    have hml := h1.lt
    exact ⟨h.f, h.ex.trans' e (fun b hb => .inr (Nat.le_trans h.ex.size (hG b hb))), h.wW, h.mW, h.ne, h.blk.ext e (fun hm => by have := hG _ hm; omega), m, h1.ext e (fun hm => by have := hG _ hm; omega), h2, h3⟩
  · apply image_writer_number_nf
    exact h.count _ ⟨rfl, k w F (h.mono rfl) (Ext.refl _ _) (Grow.refl _ _)⟩
  · apply image_writer_truth_nf
    exact sel_intro (fun _ => h.count _ ⟨rfl, k w F (h.mono rfl) (Ext.refl _ _) (Grow.refl _ _)⟩) (fun _ => h.count _ ⟨rfl, k w F (h.mono rfl) (Ext.refl _ _) (Grow.refl _ _)⟩)
  · apply image_writer_text_nf
    obtain ⟨m, h1, h2, h3⟩ := h.mp
    obtain ⟨w7, hr, hm, he⟩ := store_map (ve := Value.int .i64) kS uM h1 s (0 : Int)
    refine ptr_in ⟨_, cadd h.blk rfl, sel_true rfl (ptr_in ⟨_, cadd h.blk rfl, w7, hr, k w7 F ⟨h.f, h.ex.trans' he (fun b hb => by simp at hb; subst hb; exact .inr h.mW), h.wW, h.mW, h.ne, h.blk.ext he (by simpa using h.ne), _, hm, fun x => ?_, h3.put (by omega)⟩ (he.weaken fun b hb => .inl (by rw [h.f]; simp at hb; simp [hb])) (Grow.refl _ _)⟩)⟩
    rw [texts_app, List.mem_append, ← h2]
    by_cases hs : s ∈ mkeys m
    · rw [mkeys_in _ hs]
      constructor
      · exact .inl
      · rintro (h | h)
        · exact h
        · simp [texts, textOf] at h; subst h; exact hs
    · rw [mkeys_out _ hs, List.mem_append]
      simp [texts, textOf]
end Go.Proofs.YtoaeefjcjdhlkaaGreat
