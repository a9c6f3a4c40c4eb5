/- Normal forms of the program's functions, printed by a program of mine; the kernel checks each. -/
import Derived.Test.YtcampkaenlohbaaProg
import Derived.Test.YtcampkaenlohbaaV2
set_option linter.unusedVariables false
set_option maxRecDepth 100000
namespace Go.Proofs.Ytcampkaenlohbaa
open Go

theorem math_bits_Len32_nf (x_1 : Int) (w : World) (R : Ending → World → Prop) (h :
  V.sel (decide (x_1 ≥ 65536))
  (V.sel (decide ((Int.fdiv x_1 (2 ^ 16)) ≥ 256))
  (V.lt (Int.fdiv (Int.fdiv x_1 (2 ^ 16)) (2 ^ 8)) fun x2 =>
  V.when (decide ((0 : Int) ≤ (IntKind.wrap .u8 (x2)) ∧ ((IntKind.wrap .u8 (x2)) : Int) < ((ByteArray.size ⟨#[0, 1, 2, 2, 3, 3, 3, 3, 4, 4, 4, 4, 4, 4, 4, 4, 5, 5, 5, 5, 5, 5, 5, 5, 5, 5, 5, 5, 5, 5, 5, 5, 6, 6, 6, 6, 6, 6, 6, 6, 6, 6, 6, 6, 6, 6, 6, 6, 6, 6, 6, 6, 6, 6, 6, 6, 6, 6, 6, 6, 6, 6, 6, 6, 7, 7, 7, 7, 7, 7, 7, 7, 7, 7, 7, 7, 7, 7, 7, 7, 7, 7, 7, 7, 7, 7, 7, 7, 7, 7, 7, 7, 7, 7, 7, 7, 7, 7, 7, 7, 7, 7, 7, 7, 7, 7, 7, 7, 7, 7, 7, 7, 7, 7, 7, 7, 7, 7, 7, 7, 7, 7, 7, 7, 7, 7, 7, 7, 8, 8, 8, 8, 8, 8, 8, 8, 8, 8, 8, 8, 8, 8, 8, 8, 8, 8, 8, 8, 8, 8, 8, 8, 8, 8, 8, 8, 8, 8, 8, 8, 8, 8, 8, 8, 8, 8, 8, 8, 8, 8, 8, 8, 8, 8, 8, 8, 8, 8, 8, 8, 8, 8, 8, 8, 8, 8, 8, 8, 8, 8, 8, 8, 8, 8, 8, 8, 8, 8, 8, 8, 8, 8, 8, 8, 8, 8, 8, 8, 8, 8, 8, 8, 8, 8, 8, 8, 8, 8, 8, 8, 8, 8, 8, 8, 8, 8, 8, 8, 8, 8, 8, 8, 8, 8, 8, 8, 8, 8, 8, 8, 8, 8, 8, 8, 8, 8, 8, 8, 8, 8, 8, 8, 8, 8, 8, 8]⟩ : Nat) : Int))) (V.lt (IntKind.wrap .i64 (24 + (IntKind.wrap .i64 ((V.byteAt ⟨#[0, 1, 2, 2, 3, 3, 3, 3, 4, 4, 4, 4, 4, 4, 4, 4, 5, 5, 5, 5, 5, 5, 5, 5, 5, 5, 5, 5, 5, 5, 5, 5, 6, 6, 6, 6, 6, 6, 6, 6, 6, 6, 6, 6, 6, 6, 6, 6, 6, 6, 6, 6, 6, 6, 6, 6, 6, 6, 6, 6, 6, 6, 6, 6, 7, 7, 7, 7, 7, 7, 7, 7, 7, 7, 7, 7, 7, 7, 7, 7, 7, 7, 7, 7, 7, 7, 7, 7, 7, 7, 7, 7, 7, 7, 7, 7, 7, 7, 7, 7, 7, 7, 7, 7, 7, 7, 7, 7, 7, 7, 7, 7, 7, 7, 7, 7, 7, 7, 7, 7, 7, 7, 7, 7, 7, 7, 7, 7, 8, 8, 8, 8, 8, 8, 8, 8, 8, 8, 8, 8, 8, 8, 8, 8, 8, 8, 8, 8, 8, 8, 8, 8, 8, 8, 8, 8, 8, 8, 8, 8, 8, 8, 8, 8, 8, 8, 8, 8, 8, 8, 8, 8, 8, 8, 8, 8, 8, 8, 8, 8, 8, 8, 8, 8, 8, 8, 8, 8, 8, 8, 8, 8, 8, 8, 8, 8, 8, 8, 8, 8, 8, 8, 8, 8, 8, 8, 8, 8, 8, 8, 8, 8, 8, 8, 8, 8, 8, 8, 8, 8, 8, 8, 8, 8, 8, 8, 8, 8, 8, 8, 8, 8, 8, 8, 8, 8, 8, 8, 8, 8, 8, 8, 8, 8, 8, 8, 8, 8, 8, 8, 8, 8, 8, 8, 8, 8]⟩ (IntKind.wrap .u8 (x2))))))) fun x3 =>
  R (Ending.returned (Value.int .i64 x3)) w))
  (V.when (decide ((0 : Int) ≤ (IntKind.wrap .u8 ((Int.fdiv x_1 (2 ^ 16)))) ∧ ((IntKind.wrap .u8 ((Int.fdiv x_1 (2 ^ 16)))) : Int) < ((ByteArray.size ⟨#[0, 1, 2, 2, 3, 3, 3, 3, 4, 4, 4, 4, 4, 4, 4, 4, 5, 5, 5, 5, 5, 5, 5, 5, 5, 5, 5, 5, 5, 5, 5, 5, 6, 6, 6, 6, 6, 6, 6, 6, 6, 6, 6, 6, 6, 6, 6, 6, 6, 6, 6, 6, 6, 6, 6, 6, 6, 6, 6, 6, 6, 6, 6, 6, 7, 7, 7, 7, 7, 7, 7, 7, 7, 7, 7, 7, 7, 7, 7, 7, 7, 7, 7, 7, 7, 7, 7, 7, 7, 7, 7, 7, 7, 7, 7, 7, 7, 7, 7, 7, 7, 7, 7, 7, 7, 7, 7, 7, 7, 7, 7, 7, 7, 7, 7, 7, 7, 7, 7, 7, 7, 7, 7, 7, 7, 7, 7, 7, 8, 8, 8, 8, 8, 8, 8, 8, 8, 8, 8, 8, 8, 8, 8, 8, 8, 8, 8, 8, 8, 8, 8, 8, 8, 8, 8, 8, 8, 8, 8, 8, 8, 8, 8, 8, 8, 8, 8, 8, 8, 8, 8, 8, 8, 8, 8, 8, 8, 8, 8, 8, 8, 8, 8, 8, 8, 8, 8, 8, 8, 8, 8, 8, 8, 8, 8, 8, 8, 8, 8, 8, 8, 8, 8, 8, 8, 8, 8, 8, 8, 8, 8, 8, 8, 8, 8, 8, 8, 8, 8, 8, 8, 8, 8, 8, 8, 8, 8, 8, 8, 8, 8, 8, 8, 8, 8, 8, 8, 8, 8, 8, 8, 8, 8, 8, 8, 8, 8, 8, 8, 8, 8, 8, 8, 8, 8, 8]⟩ : Nat) : Int))) (V.lt (IntKind.wrap .i64 (16 + (IntKind.wrap .i64 ((V.byteAt ⟨#[0, 1, 2, 2, 3, 3, 3, 3, 4, 4, 4, 4, 4, 4, 4, 4, 5, 5, 5, 5, 5, 5, 5, 5, 5, 5, 5, 5, 5, 5, 5, 5, 6, 6, 6, 6, 6, 6, 6, 6, 6, 6, 6, 6, 6, 6, 6, 6, 6, 6, 6, 6, 6, 6, 6, 6, 6, 6, 6, 6, 6, 6, 6, 6, 7, 7, 7, 7, 7, 7, 7, 7, 7, 7, 7, 7, 7, 7, 7, 7, 7, 7, 7, 7, 7, 7, 7, 7, 7, 7, 7, 7, 7, 7, 7, 7, 7, 7, 7, 7, 7, 7, 7, 7, 7, 7, 7, 7, 7, 7, 7, 7, 7, 7, 7, 7, 7, 7, 7, 7, 7, 7, 7, 7, 7, 7, 7, 7, 8, 8, 8, 8, 8, 8, 8, 8, 8, 8, 8, 8, 8, 8, 8, 8, 8, 8, 8, 8, 8, 8, 8, 8, 8, 8, 8, 8, 8, 8, 8, 8, 8, 8, 8, 8, 8, 8, 8, 8, 8, 8, 8, 8, 8, 8, 8, 8, 8, 8, 8, 8, 8, 8, 8, 8, 8, 8, 8, 8, 8, 8, 8, 8, 8, 8, 8, 8, 8, 8, 8, 8, 8, 8, 8, 8, 8, 8, 8, 8, 8, 8, 8, 8, 8, 8, 8, 8, 8, 8, 8, 8, 8, 8, 8, 8, 8, 8, 8, 8, 8, 8, 8, 8, 8, 8, 8, 8, 8, 8, 8, 8, 8, 8, 8, 8, 8, 8, 8, 8, 8, 8, 8, 8, 8, 8, 8, 8]⟩ (IntKind.wrap .u8 ((Int.fdiv x_1 (2 ^ 16))))))))) fun x4 =>
  R (Ending.returned (Value.int .i64 x4)) w)))
  (V.sel (decide (x_1 ≥ 256))
  (V.when (decide ((0 : Int) ≤ (IntKind.wrap .u8 ((Int.fdiv x_1 (2 ^ 8)))) ∧ ((IntKind.wrap .u8 ((Int.fdiv x_1 (2 ^ 8)))) : Int) < ((ByteArray.size ⟨#[0, 1, 2, 2, 3, 3, 3, 3, 4, 4, 4, 4, 4, 4, 4, 4, 5, 5, 5, 5, 5, 5, 5, 5, 5, 5, 5, 5, 5, 5, 5, 5, 6, 6, 6, 6, 6, 6, 6, 6, 6, 6, 6, 6, 6, 6, 6, 6, 6, 6, 6, 6, 6, 6, 6, 6, 6, 6, 6, 6, 6, 6, 6, 6, 7, 7, 7, 7, 7, 7, 7, 7, 7, 7, 7, 7, 7, 7, 7, 7, 7, 7, 7, 7, 7, 7, 7, 7, 7, 7, 7, 7, 7, 7, 7, 7, 7, 7, 7, 7, 7, 7, 7, 7, 7, 7, 7, 7, 7, 7, 7, 7, 7, 7, 7, 7, 7, 7, 7, 7, 7, 7, 7, 7, 7, 7, 7, 7, 8, 8, 8, 8, 8, 8, 8, 8, 8, 8, 8, 8, 8, 8, 8, 8, 8, 8, 8, 8, 8, 8, 8, 8, 8, 8, 8, 8, 8, 8, 8, 8, 8, 8, 8, 8, 8, 8, 8, 8, 8, 8, 8, 8, 8, 8, 8, 8, 8, 8, 8, 8, 8, 8, 8, 8, 8, 8, 8, 8, 8, 8, 8, 8, 8, 8, 8, 8, 8, 8, 8, 8, 8, 8, 8, 8, 8, 8, 8, 8, 8, 8, 8, 8, 8, 8, 8, 8, 8, 8, 8, 8, 8, 8, 8, 8, 8, 8, 8, 8, 8, 8, 8, 8, 8, 8, 8, 8, 8, 8, 8, 8, 8, 8, 8, 8, 8, 8, 8, 8, 8, 8, 8, 8, 8, 8, 8, 8]⟩ : Nat) : Int))) (V.lt (IntKind.wrap .i64 (8 + (IntKind.wrap .i64 ((V.byteAt ⟨#[0, 1, 2, 2, 3, 3, 3, 3, 4, 4, 4, 4, 4, 4, 4, 4, 5, 5, 5, 5, 5, 5, 5, 5, 5, 5, 5, 5, 5, 5, 5, 5, 6, 6, 6, 6, 6, 6, 6, 6, 6, 6, 6, 6, 6, 6, 6, 6, 6, 6, 6, 6, 6, 6, 6, 6, 6, 6, 6, 6, 6, 6, 6, 6, 7, 7, 7, 7, 7, 7, 7, 7, 7, 7, 7, 7, 7, 7, 7, 7, 7, 7, 7, 7, 7, 7, 7, 7, 7, 7, 7, 7, 7, 7, 7, 7, 7, 7, 7, 7, 7, 7, 7, 7, 7, 7, 7, 7, 7, 7, 7, 7, 7, 7, 7, 7, 7, 7, 7, 7, 7, 7, 7, 7, 7, 7, 7, 7, 8, 8, 8, 8, 8, 8, 8, 8, 8, 8, 8, 8, 8, 8, 8, 8, 8, 8, 8, 8, 8, 8, 8, 8, 8, 8, 8, 8, 8, 8, 8, 8, 8, 8, 8, 8, 8, 8, 8, 8, 8, 8, 8, 8, 8, 8, 8, 8, 8, 8, 8, 8, 8, 8, 8, 8, 8, 8, 8, 8, 8, 8, 8, 8, 8, 8, 8, 8, 8, 8, 8, 8, 8, 8, 8, 8, 8, 8, 8, 8, 8, 8, 8, 8, 8, 8, 8, 8, 8, 8, 8, 8, 8, 8, 8, 8, 8, 8, 8, 8, 8, 8, 8, 8, 8, 8, 8, 8, 8, 8, 8, 8, 8, 8, 8, 8, 8, 8, 8, 8, 8, 8, 8, 8, 8, 8, 8, 8]⟩ (IntKind.wrap .u8 ((Int.fdiv x_1 (2 ^ 8))))))))) fun x5 =>
  R (Ending.returned (Value.int .i64 x5)) w))
  (V.when (decide ((0 : Int) ≤ (IntKind.wrap .u8 (x_1)) ∧ ((IntKind.wrap .u8 (x_1)) : Int) < ((ByteArray.size ⟨#[0, 1, 2, 2, 3, 3, 3, 3, 4, 4, 4, 4, 4, 4, 4, 4, 5, 5, 5, 5, 5, 5, 5, 5, 5, 5, 5, 5, 5, 5, 5, 5, 6, 6, 6, 6, 6, 6, 6, 6, 6, 6, 6, 6, 6, 6, 6, 6, 6, 6, 6, 6, 6, 6, 6, 6, 6, 6, 6, 6, 6, 6, 6, 6, 7, 7, 7, 7, 7, 7, 7, 7, 7, 7, 7, 7, 7, 7, 7, 7, 7, 7, 7, 7, 7, 7, 7, 7, 7, 7, 7, 7, 7, 7, 7, 7, 7, 7, 7, 7, 7, 7, 7, 7, 7, 7, 7, 7, 7, 7, 7, 7, 7, 7, 7, 7, 7, 7, 7, 7, 7, 7, 7, 7, 7, 7, 7, 7, 8, 8, 8, 8, 8, 8, 8, 8, 8, 8, 8, 8, 8, 8, 8, 8, 8, 8, 8, 8, 8, 8, 8, 8, 8, 8, 8, 8, 8, 8, 8, 8, 8, 8, 8, 8, 8, 8, 8, 8, 8, 8, 8, 8, 8, 8, 8, 8, 8, 8, 8, 8, 8, 8, 8, 8, 8, 8, 8, 8, 8, 8, 8, 8, 8, 8, 8, 8, 8, 8, 8, 8, 8, 8, 8, 8, 8, 8, 8, 8, 8, 8, 8, 8, 8, 8, 8, 8, 8, 8, 8, 8, 8, 8, 8, 8, 8, 8, 8, 8, 8, 8, 8, 8, 8, 8, 8, 8, 8, 8, 8, 8, 8, 8, 8, 8, 8, 8, 8, 8, 8, 8, 8, 8, 8, 8, 8, 8]⟩ : Nat) : Int))) (V.lt (IntKind.wrap .i64 (0 + (IntKind.wrap .i64 ((V.byteAt ⟨#[0, 1, 2, 2, 3, 3, 3, 3, 4, 4, 4, 4, 4, 4, 4, 4, 5, 5, 5, 5, 5, 5, 5, 5, 5, 5, 5, 5, 5, 5, 5, 5, 6, 6, 6, 6, 6, 6, 6, 6, 6, 6, 6, 6, 6, 6, 6, 6, 6, 6, 6, 6, 6, 6, 6, 6, 6, 6, 6, 6, 6, 6, 6, 6, 7, 7, 7, 7, 7, 7, 7, 7, 7, 7, 7, 7, 7, 7, 7, 7, 7, 7, 7, 7, 7, 7, 7, 7, 7, 7, 7, 7, 7, 7, 7, 7, 7, 7, 7, 7, 7, 7, 7, 7, 7, 7, 7, 7, 7, 7, 7, 7, 7, 7, 7, 7, 7, 7, 7, 7, 7, 7, 7, 7, 7, 7, 7, 7, 8, 8, 8, 8, 8, 8, 8, 8, 8, 8, 8, 8, 8, 8, 8, 8, 8, 8, 8, 8, 8, 8, 8, 8, 8, 8, 8, 8, 8, 8, 8, 8, 8, 8, 8, 8, 8, 8, 8, 8, 8, 8, 8, 8, 8, 8, 8, 8, 8, 8, 8, 8, 8, 8, 8, 8, 8, 8, 8, 8, 8, 8, 8, 8, 8, 8, 8, 8, 8, 8, 8, 8, 8, 8, 8, 8, 8, 8, 8, 8, 8, 8, 8, 8, 8, 8, 8, 8, 8, 8, 8, 8, 8, 8, 8, 8, 8, 8, 8, 8, 8, 8, 8, 8, 8, 8, 8, 8, 8, 8, 8, 8, 8, 8, 8, 8, 8, 8, 8, 8, 8, 8, 8, 8, 8, 8, 8, 8]⟩ (IntKind.wrap .u8 (x_1))))))) fun x6 =>
  R (Ending.returned (Value.int .i64 x6)) w)))) :
  Calls Try.prog 56 #[(Value.int .u32 x_1)] w R :=
  V.calls_of_R ⟨V.assoc [], V.assocP [], V.assocC [], V.assocS [], ⟨[], true⟩⟩ Try.func56 rfl (Eq.mp (by kernel_rfl) h)

theorem math_bits_Len64_nf (x_1 : Int) (w : World) (R : Ending → World → Prop) (h :
  V.sel (decide (x_1 ≥ 4294967296))
  (V.sel (decide ((Int.fdiv x_1 (2 ^ 32)) ≥ 65536))
  (V.lt (Int.fdiv (Int.fdiv x_1 (2 ^ 32)) (2 ^ 16)) fun x2 =>
  V.sel (decide (x2 ≥ 256))
  (V.when (decide ((0 : Int) ≤ (IntKind.wrap .u8 ((Int.fdiv x2 (2 ^ 8)))) ∧ ((IntKind.wrap .u8 ((Int.fdiv x2 (2 ^ 8)))) : Int) < ((ByteArray.size ⟨#[0, 1, 2, 2, 3, 3, 3, 3, 4, 4, 4, 4, 4, 4, 4, 4, 5, 5, 5, 5, 5, 5, 5, 5, 5, 5, 5, 5, 5, 5, 5, 5, 6, 6, 6, 6, 6, 6, 6, 6, 6, 6, 6, 6, 6, 6, 6, 6, 6, 6, 6, 6, 6, 6, 6, 6, 6, 6, 6, 6, 6, 6, 6, 6, 7, 7, 7, 7, 7, 7, 7, 7, 7, 7, 7, 7, 7, 7, 7, 7, 7, 7, 7, 7, 7, 7, 7, 7, 7, 7, 7, 7, 7, 7, 7, 7, 7, 7, 7, 7, 7, 7, 7, 7, 7, 7, 7, 7, 7, 7, 7, 7, 7, 7, 7, 7, 7, 7, 7, 7, 7, 7, 7, 7, 7, 7, 7, 7, 8, 8, 8, 8, 8, 8, 8, 8, 8, 8, 8, 8, 8, 8, 8, 8, 8, 8, 8, 8, 8, 8, 8, 8, 8, 8, 8, 8, 8, 8, 8, 8, 8, 8, 8, 8, 8, 8, 8, 8, 8, 8, 8, 8, 8, 8, 8, 8, 8, 8, 8, 8, 8, 8, 8, 8, 8, 8, 8, 8, 8, 8, 8, 8, 8, 8, 8, 8, 8, 8, 8, 8, 8, 8, 8, 8, 8, 8, 8, 8, 8, 8, 8, 8, 8, 8, 8, 8, 8, 8, 8, 8, 8, 8, 8, 8, 8, 8, 8, 8, 8, 8, 8, 8, 8, 8, 8, 8, 8, 8, 8, 8, 8, 8, 8, 8, 8, 8, 8, 8, 8, 8, 8, 8, 8, 8, 8, 8]⟩ : Nat) : Int))) (V.lt (IntKind.wrap .i64 (56 + (IntKind.wrap .i64 ((V.byteAt ⟨#[0, 1, 2, 2, 3, 3, 3, 3, 4, 4, 4, 4, 4, 4, 4, 4, 5, 5, 5, 5, 5, 5, 5, 5, 5, 5, 5, 5, 5, 5, 5, 5, 6, 6, 6, 6, 6, 6, 6, 6, 6, 6, 6, 6, 6, 6, 6, 6, 6, 6, 6, 6, 6, 6, 6, 6, 6, 6, 6, 6, 6, 6, 6, 6, 7, 7, 7, 7, 7, 7, 7, 7, 7, 7, 7, 7, 7, 7, 7, 7, 7, 7, 7, 7, 7, 7, 7, 7, 7, 7, 7, 7, 7, 7, 7, 7, 7, 7, 7, 7, 7, 7, 7, 7, 7, 7, 7, 7, 7, 7, 7, 7, 7, 7, 7, 7, 7, 7, 7, 7, 7, 7, 7, 7, 7, 7, 7, 7, 8, 8, 8, 8, 8, 8, 8, 8, 8, 8, 8, 8, 8, 8, 8, 8, 8, 8, 8, 8, 8, 8, 8, 8, 8, 8, 8, 8, 8, 8, 8, 8, 8, 8, 8, 8, 8, 8, 8, 8, 8, 8, 8, 8, 8, 8, 8, 8, 8, 8, 8, 8, 8, 8, 8, 8, 8, 8, 8, 8, 8, 8, 8, 8, 8, 8, 8, 8, 8, 8, 8, 8, 8, 8, 8, 8, 8, 8, 8, 8, 8, 8, 8, 8, 8, 8, 8, 8, 8, 8, 8, 8, 8, 8, 8, 8, 8, 8, 8, 8, 8, 8, 8, 8, 8, 8, 8, 8, 8, 8, 8, 8, 8, 8, 8, 8, 8, 8, 8, 8, 8, 8, 8, 8, 8, 8, 8, 8]⟩ (IntKind.wrap .u8 ((Int.fdiv x2 (2 ^ 8))))))))) fun x3 =>
  R (Ending.returned (Value.int .i64 x3)) w))
  (V.when (decide ((0 : Int) ≤ (IntKind.wrap .u8 (x2)) ∧ ((IntKind.wrap .u8 (x2)) : Int) < ((ByteArray.size ⟨#[0, 1, 2, 2, 3, 3, 3, 3, 4, 4, 4, 4, 4, 4, 4, 4, 5, 5, 5, 5, 5, 5, 5, 5, 5, 5, 5, 5, 5, 5, 5, 5, 6, 6, 6, 6, 6, 6, 6, 6, 6, 6, 6, 6, 6, 6, 6, 6, 6, 6, 6, 6, 6, 6, 6, 6, 6, 6, 6, 6, 6, 6, 6, 6, 7, 7, 7, 7, 7, 7, 7, 7, 7, 7, 7, 7, 7, 7, 7, 7, 7, 7, 7, 7, 7, 7, 7, 7, 7, 7, 7, 7, 7, 7, 7, 7, 7, 7, 7, 7, 7, 7, 7, 7, 7, 7, 7, 7, 7, 7, 7, 7, 7, 7, 7, 7, 7, 7, 7, 7, 7, 7, 7, 7, 7, 7, 7, 7, 8, 8, 8, 8, 8, 8, 8, 8, 8, 8, 8, 8, 8, 8, 8, 8, 8, 8, 8, 8, 8, 8, 8, 8, 8, 8, 8, 8, 8, 8, 8, 8, 8, 8, 8, 8, 8, 8, 8, 8, 8, 8, 8, 8, 8, 8, 8, 8, 8, 8, 8, 8, 8, 8, 8, 8, 8, 8, 8, 8, 8, 8, 8, 8, 8, 8, 8, 8, 8, 8, 8, 8, 8, 8, 8, 8, 8, 8, 8, 8, 8, 8, 8, 8, 8, 8, 8, 8, 8, 8, 8, 8, 8, 8, 8, 8, 8, 8, 8, 8, 8, 8, 8, 8, 8, 8, 8, 8, 8, 8, 8, 8, 8, 8, 8, 8, 8, 8, 8, 8, 8, 8, 8, 8, 8, 8, 8, 8]⟩ : Nat) : Int))) (V.lt (IntKind.wrap .i64 (48 + (IntKind.wrap .i64 ((V.byteAt ⟨#[0, 1, 2, 2, 3, 3, 3, 3, 4, 4, 4, 4, 4, 4, 4, 4, 5, 5, 5, 5, 5, 5, 5, 5, 5, 5, 5, 5, 5, 5, 5, 5, 6, 6, 6, 6, 6, 6, 6, 6, 6, 6, 6, 6, 6, 6, 6, 6, 6, 6, 6, 6, 6, 6, 6, 6, 6, 6, 6, 6, 6, 6, 6, 6, 7, 7, 7, 7, 7, 7, 7, 7, 7, 7, 7, 7, 7, 7, 7, 7, 7, 7, 7, 7, 7, 7, 7, 7, 7, 7, 7, 7, 7, 7, 7, 7, 7, 7, 7, 7, 7, 7, 7, 7, 7, 7, 7, 7, 7, 7, 7, 7, 7, 7, 7, 7, 7, 7, 7, 7, 7, 7, 7, 7, 7, 7, 7, 7, 8, 8, 8, 8, 8, 8, 8, 8, 8, 8, 8, 8, 8, 8, 8, 8, 8, 8, 8, 8, 8, 8, 8, 8, 8, 8, 8, 8, 8, 8, 8, 8, 8, 8, 8, 8, 8, 8, 8, 8, 8, 8, 8, 8, 8, 8, 8, 8, 8, 8, 8, 8, 8, 8, 8, 8, 8, 8, 8, 8, 8, 8, 8, 8, 8, 8, 8, 8, 8, 8, 8, 8, 8, 8, 8, 8, 8, 8, 8, 8, 8, 8, 8, 8, 8, 8, 8, 8, 8, 8, 8, 8, 8, 8, 8, 8, 8, 8, 8, 8, 8, 8, 8, 8, 8, 8, 8, 8, 8, 8, 8, 8, 8, 8, 8, 8, 8, 8, 8, 8, 8, 8, 8, 8, 8, 8, 8, 8]⟩ (IntKind.wrap .u8 (x2))))))) fun x4 =>
  R (Ending.returned (Value.int .i64 x4)) w)))
  (V.sel (decide ((Int.fdiv x_1 (2 ^ 32)) ≥ 256))
  (V.lt (Int.fdiv (Int.fdiv x_1 (2 ^ 32)) (2 ^ 8)) fun x5 =>
  V.when (decide ((0 : Int) ≤ (IntKind.wrap .u8 (x5)) ∧ ((IntKind.wrap .u8 (x5)) : Int) < ((ByteArray.size ⟨#[0, 1, 2, 2, 3, 3, 3, 3, 4, 4, 4, 4, 4, 4, 4, 4, 5, 5, 5, 5, 5, 5, 5, 5, 5, 5, 5, 5, 5, 5, 5, 5, 6, 6, 6, 6, 6, 6, 6, 6, 6, 6, 6, 6, 6, 6, 6, 6, 6, 6, 6, 6, 6, 6, 6, 6, 6, 6, 6, 6, 6, 6, 6, 6, 7, 7, 7, 7, 7, 7, 7, 7, 7, 7, 7, 7, 7, 7, 7, 7, 7, 7, 7, 7, 7, 7, 7, 7, 7, 7, 7, 7, 7, 7, 7, 7, 7, 7, 7, 7, 7, 7, 7, 7, 7, 7, 7, 7, 7, 7, 7, 7, 7, 7, 7, 7, 7, 7, 7, 7, 7, 7, 7, 7, 7, 7, 7, 7, 8, 8, 8, 8, 8, 8, 8, 8, 8, 8, 8, 8, 8, 8, 8, 8, 8, 8, 8, 8, 8, 8, 8, 8, 8, 8, 8, 8, 8, 8, 8, 8, 8, 8, 8, 8, 8, 8, 8, 8, 8, 8, 8, 8, 8, 8, 8, 8, 8, 8, 8, 8, 8, 8, 8, 8, 8, 8, 8, 8, 8, 8, 8, 8, 8, 8, 8, 8, 8, 8, 8, 8, 8, 8, 8, 8, 8, 8, 8, 8, 8, 8, 8, 8, 8, 8, 8, 8, 8, 8, 8, 8, 8, 8, 8, 8, 8, 8, 8, 8, 8, 8, 8, 8, 8, 8, 8, 8, 8, 8, 8, 8, 8, 8, 8, 8, 8, 8, 8, 8, 8, 8, 8, 8, 8, 8, 8, 8]⟩ : Nat) : Int))) (V.lt (IntKind.wrap .i64 (40 + (IntKind.wrap .i64 ((V.byteAt ⟨#[0, 1, 2, 2, 3, 3, 3, 3, 4, 4, 4, 4, 4, 4, 4, 4, 5, 5, 5, 5, 5, 5, 5, 5, 5, 5, 5, 5, 5, 5, 5, 5, 6, 6, 6, 6, 6, 6, 6, 6, 6, 6, 6, 6, 6, 6, 6, 6, 6, 6, 6, 6, 6, 6, 6, 6, 6, 6, 6, 6, 6, 6, 6, 6, 7, 7, 7, 7, 7, 7, 7, 7, 7, 7, 7, 7, 7, 7, 7, 7, 7, 7, 7, 7, 7, 7, 7, 7, 7, 7, 7, 7, 7, 7, 7, 7, 7, 7, 7, 7, 7, 7, 7, 7, 7, 7, 7, 7, 7, 7, 7, 7, 7, 7, 7, 7, 7, 7, 7, 7, 7, 7, 7, 7, 7, 7, 7, 7, 8, 8, 8, 8, 8, 8, 8, 8, 8, 8, 8, 8, 8, 8, 8, 8, 8, 8, 8, 8, 8, 8, 8, 8, 8, 8, 8, 8, 8, 8, 8, 8, 8, 8, 8, 8, 8, 8, 8, 8, 8, 8, 8, 8, 8, 8, 8, 8, 8, 8, 8, 8, 8, 8, 8, 8, 8, 8, 8, 8, 8, 8, 8, 8, 8, 8, 8, 8, 8, 8, 8, 8, 8, 8, 8, 8, 8, 8, 8, 8, 8, 8, 8, 8, 8, 8, 8, 8, 8, 8, 8, 8, 8, 8, 8, 8, 8, 8, 8, 8, 8, 8, 8, 8, 8, 8, 8, 8, 8, 8, 8, 8, 8, 8, 8, 8, 8, 8, 8, 8, 8, 8, 8, 8, 8, 8, 8, 8]⟩ (IntKind.wrap .u8 (x5))))))) fun x6 =>
  R (Ending.returned (Value.int .i64 x6)) w))
  (V.when (decide ((0 : Int) ≤ (IntKind.wrap .u8 ((Int.fdiv x_1 (2 ^ 32)))) ∧ ((IntKind.wrap .u8 ((Int.fdiv x_1 (2 ^ 32)))) : Int) < ((ByteArray.size ⟨#[0, 1, 2, 2, 3, 3, 3, 3, 4, 4, 4, 4, 4, 4, 4, 4, 5, 5, 5, 5, 5, 5, 5, 5, 5, 5, 5, 5, 5, 5, 5, 5, 6, 6, 6, 6, 6, 6, 6, 6, 6, 6, 6, 6, 6, 6, 6, 6, 6, 6, 6, 6, 6, 6, 6, 6, 6, 6, 6, 6, 6, 6, 6, 6, 7, 7, 7, 7, 7, 7, 7, 7, 7, 7, 7, 7, 7, 7, 7, 7, 7, 7, 7, 7, 7, 7, 7, 7, 7, 7, 7, 7, 7, 7, 7, 7, 7, 7, 7, 7, 7, 7, 7, 7, 7, 7, 7, 7, 7, 7, 7, 7, 7, 7, 7, 7, 7, 7, 7, 7, 7, 7, 7, 7, 7, 7, 7, 7, 8, 8, 8, 8, 8, 8, 8, 8, 8, 8, 8, 8, 8, 8, 8, 8, 8, 8, 8, 8, 8, 8, 8, 8, 8, 8, 8, 8, 8, 8, 8, 8, 8, 8, 8, 8, 8, 8, 8, 8, 8, 8, 8, 8, 8, 8, 8, 8, 8, 8, 8, 8, 8, 8, 8, 8, 8, 8, 8, 8, 8, 8, 8, 8, 8, 8, 8, 8, 8, 8, 8, 8, 8, 8, 8, 8, 8, 8, 8, 8, 8, 8, 8, 8, 8, 8, 8, 8, 8, 8, 8, 8, 8, 8, 8, 8, 8, 8, 8, 8, 8, 8, 8, 8, 8, 8, 8, 8, 8, 8, 8, 8, 8, 8, 8, 8, 8, 8, 8, 8, 8, 8, 8, 8, 8, 8, 8, 8]⟩ : Nat) : Int))) (V.lt (IntKind.wrap .i64 (32 + (IntKind.wrap .i64 ((V.byteAt ⟨#[0, 1, 2, 2, 3, 3, 3, 3, 4, 4, 4, 4, 4, 4, 4, 4, 5, 5, 5, 5, 5, 5, 5, 5, 5, 5, 5, 5, 5, 5, 5, 5, 6, 6, 6, 6, 6, 6, 6, 6, 6, 6, 6, 6, 6, 6, 6, 6, 6, 6, 6, 6, 6, 6, 6, 6, 6, 6, 6, 6, 6, 6, 6, 6, 7, 7, 7, 7, 7, 7, 7, 7, 7, 7, 7, 7, 7, 7, 7, 7, 7, 7, 7, 7, 7, 7, 7, 7, 7, 7, 7, 7, 7, 7, 7, 7, 7, 7, 7, 7, 7, 7, 7, 7, 7, 7, 7, 7, 7, 7, 7, 7, 7, 7, 7, 7, 7, 7, 7, 7, 7, 7, 7, 7, 7, 7, 7, 7, 8, 8, 8, 8, 8, 8, 8, 8, 8, 8, 8, 8, 8, 8, 8, 8, 8, 8, 8, 8, 8, 8, 8, 8, 8, 8, 8, 8, 8, 8, 8, 8, 8, 8, 8, 8, 8, 8, 8, 8, 8, 8, 8, 8, 8, 8, 8, 8, 8, 8, 8, 8, 8, 8, 8, 8, 8, 8, 8, 8, 8, 8, 8, 8, 8, 8, 8, 8, 8, 8, 8, 8, 8, 8, 8, 8, 8, 8, 8, 8, 8, 8, 8, 8, 8, 8, 8, 8, 8, 8, 8, 8, 8, 8, 8, 8, 8, 8, 8, 8, 8, 8, 8, 8, 8, 8, 8, 8, 8, 8, 8, 8, 8, 8, 8, 8, 8, 8, 8, 8, 8, 8, 8, 8, 8, 8, 8, 8]⟩ (IntKind.wrap .u8 ((Int.fdiv x_1 (2 ^ 32))))))))) fun x7 =>
  R (Ending.returned (Value.int .i64 x7)) w))))
  (V.sel (decide (x_1 ≥ 65536))
  (V.sel (decide ((Int.fdiv x_1 (2 ^ 16)) ≥ 256))
  (V.lt (Int.fdiv (Int.fdiv x_1 (2 ^ 16)) (2 ^ 8)) fun x8 =>
  V.when (decide ((0 : Int) ≤ (IntKind.wrap .u8 (x8)) ∧ ((IntKind.wrap .u8 (x8)) : Int) < ((ByteArray.size ⟨#[0, 1, 2, 2, 3, 3, 3, 3, 4, 4, 4, 4, 4, 4, 4, 4, 5, 5, 5, 5, 5, 5, 5, 5, 5, 5, 5, 5, 5, 5, 5, 5, 6, 6, 6, 6, 6, 6, 6, 6, 6, 6, 6, 6, 6, 6, 6, 6, 6, 6, 6, 6, 6, 6, 6, 6, 6, 6, 6, 6, 6, 6, 6, 6, 7, 7, 7, 7, 7, 7, 7, 7, 7, 7, 7, 7, 7, 7, 7, 7, 7, 7, 7, 7, 7, 7, 7, 7, 7, 7, 7, 7, 7, 7, 7, 7, 7, 7, 7, 7, 7, 7, 7, 7, 7, 7, 7, 7, 7, 7, 7, 7, 7, 7, 7, 7, 7, 7, 7, 7, 7, 7, 7, 7, 7, 7, 7, 7, 8, 8, 8, 8, 8, 8, 8, 8, 8, 8, 8, 8, 8, 8, 8, 8, 8, 8, 8, 8, 8, 8, 8, 8, 8, 8, 8, 8, 8, 8, 8, 8, 8, 8, 8, 8, 8, 8, 8, 8, 8, 8, 8, 8, 8, 8, 8, 8, 8, 8, 8, 8, 8, 8, 8, 8, 8, 8, 8, 8, 8, 8, 8, 8, 8, 8, 8, 8, 8, 8, 8, 8, 8, 8, 8, 8, 8, 8, 8, 8, 8, 8, 8, 8, 8, 8, 8, 8, 8, 8, 8, 8, 8, 8, 8, 8, 8, 8, 8, 8, 8, 8, 8, 8, 8, 8, 8, 8, 8, 8, 8, 8, 8, 8, 8, 8, 8, 8, 8, 8, 8, 8, 8, 8, 8, 8, 8, 8]⟩ : Nat) : Int))) (V.lt (IntKind.wrap .i64 (24 + (IntKind.wrap .i64 ((V.byteAt ⟨#[0, 1, 2, 2, 3, 3, 3, 3, 4, 4, 4, 4, 4, 4, 4, 4, 5, 5, 5, 5, 5, 5, 5, 5, 5, 5, 5, 5, 5, 5, 5, 5, 6, 6, 6, 6, 6, 6, 6, 6, 6, 6, 6, 6, 6, 6, 6, 6, 6, 6, 6, 6, 6, 6, 6, 6, 6, 6, 6, 6, 6, 6, 6, 6, 7, 7, 7, 7, 7, 7, 7, 7, 7, 7, 7, 7, 7, 7, 7, 7, 7, 7, 7, 7, 7, 7, 7, 7, 7, 7, 7, 7, 7, 7, 7, 7, 7, 7, 7, 7, 7, 7, 7, 7, 7, 7, 7, 7, 7, 7, 7, 7, 7, 7, 7, 7, 7, 7, 7, 7, 7, 7, 7, 7, 7, 7, 7, 7, 8, 8, 8, 8, 8, 8, 8, 8, 8, 8, 8, 8, 8, 8, 8, 8, 8, 8, 8, 8, 8, 8, 8, 8, 8, 8, 8, 8, 8, 8, 8, 8, 8, 8, 8, 8, 8, 8, 8, 8, 8, 8, 8, 8, 8, 8, 8, 8, 8, 8, 8, 8, 8, 8, 8, 8, 8, 8, 8, 8, 8, 8, 8, 8, 8, 8, 8, 8, 8, 8, 8, 8, 8, 8, 8, 8, 8, 8, 8, 8, 8, 8, 8, 8, 8, 8, 8, 8, 8, 8, 8, 8, 8, 8, 8, 8, 8, 8, 8, 8, 8, 8, 8, 8, 8, 8, 8, 8, 8, 8, 8, 8, 8, 8, 8, 8, 8, 8, 8, 8, 8, 8, 8, 8, 8, 8, 8, 8]⟩ (IntKind.wrap .u8 (x8))))))) fun x9 =>
  R (Ending.returned (Value.int .i64 x9)) w))
  (V.when (decide ((0 : Int) ≤ (IntKind.wrap .u8 ((Int.fdiv x_1 (2 ^ 16)))) ∧ ((IntKind.wrap .u8 ((Int.fdiv x_1 (2 ^ 16)))) : Int) < ((ByteArray.size ⟨#[0, 1, 2, 2, 3, 3, 3, 3, 4, 4, 4, 4, 4, 4, 4, 4, 5, 5, 5, 5, 5, 5, 5, 5, 5, 5, 5, 5, 5, 5, 5, 5, 6, 6, 6, 6, 6, 6, 6, 6, 6, 6, 6, 6, 6, 6, 6, 6, 6, 6, 6, 6, 6, 6, 6, 6, 6, 6, 6, 6, 6, 6, 6, 6, 7, 7, 7, 7, 7, 7, 7, 7, 7, 7, 7, 7, 7, 7, 7, 7, 7, 7, 7, 7, 7, 7, 7, 7, 7, 7, 7, 7, 7, 7, 7, 7, 7, 7, 7, 7, 7, 7, 7, 7, 7, 7, 7, 7, 7, 7, 7, 7, 7, 7, 7, 7, 7, 7, 7, 7, 7, 7, 7, 7, 7, 7, 7, 7, 8, 8, 8, 8, 8, 8, 8, 8, 8, 8, 8, 8, 8, 8, 8, 8, 8, 8, 8, 8, 8, 8, 8, 8, 8, 8, 8, 8, 8, 8, 8, 8, 8, 8, 8, 8, 8, 8, 8, 8, 8, 8, 8, 8, 8, 8, 8, 8, 8, 8, 8, 8, 8, 8, 8, 8, 8, 8, 8, 8, 8, 8, 8, 8, 8, 8, 8, 8, 8, 8, 8, 8, 8, 8, 8, 8, 8, 8, 8, 8, 8, 8, 8, 8, 8, 8, 8, 8, 8, 8, 8, 8, 8, 8, 8, 8, 8, 8, 8, 8, 8, 8, 8, 8, 8, 8, 8, 8, 8, 8, 8, 8, 8, 8, 8, 8, 8, 8, 8, 8, 8, 8, 8, 8, 8, 8, 8, 8]⟩ : Nat) : Int))) (V.lt (IntKind.wrap .i64 (16 + (IntKind.wrap .i64 ((V.byteAt ⟨#[0, 1, 2, 2, 3, 3, 3, 3, 4, 4, 4, 4, 4, 4, 4, 4, 5, 5, 5, 5, 5, 5, 5, 5, 5, 5, 5, 5, 5, 5, 5, 5, 6, 6, 6, 6, 6, 6, 6, 6, 6, 6, 6, 6, 6, 6, 6, 6, 6, 6, 6, 6, 6, 6, 6, 6, 6, 6, 6, 6, 6, 6, 6, 6, 7, 7, 7, 7, 7, 7, 7, 7, 7, 7, 7, 7, 7, 7, 7, 7, 7, 7, 7, 7, 7, 7, 7, 7, 7, 7, 7, 7, 7, 7, 7, 7, 7, 7, 7, 7, 7, 7, 7, 7, 7, 7, 7, 7, 7, 7, 7, 7, 7, 7, 7, 7, 7, 7, 7, 7, 7, 7, 7, 7, 7, 7, 7, 7, 8, 8, 8, 8, 8, 8, 8, 8, 8, 8, 8, 8, 8, 8, 8, 8, 8, 8, 8, 8, 8, 8, 8, 8, 8, 8, 8, 8, 8, 8, 8, 8, 8, 8, 8, 8, 8, 8, 8, 8, 8, 8, 8, 8, 8, 8, 8, 8, 8, 8, 8, 8, 8, 8, 8, 8, 8, 8, 8, 8, 8, 8, 8, 8, 8, 8, 8, 8, 8, 8, 8, 8, 8, 8, 8, 8, 8, 8, 8, 8, 8, 8, 8, 8, 8, 8, 8, 8, 8, 8, 8, 8, 8, 8, 8, 8, 8, 8, 8, 8, 8, 8, 8, 8, 8, 8, 8, 8, 8, 8, 8, 8, 8, 8, 8, 8, 8, 8, 8, 8, 8, 8, 8, 8, 8, 8, 8, 8]⟩ (IntKind.wrap .u8 ((Int.fdiv x_1 (2 ^ 16))))))))) fun x10 =>
  R (Ending.returned (Value.int .i64 x10)) w)))
  (V.sel (decide (x_1 ≥ 256))
  (V.when (decide ((0 : Int) ≤ (IntKind.wrap .u8 ((Int.fdiv x_1 (2 ^ 8)))) ∧ ((IntKind.wrap .u8 ((Int.fdiv x_1 (2 ^ 8)))) : Int) < ((ByteArray.size ⟨#[0, 1, 2, 2, 3, 3, 3, 3, 4, 4, 4, 4, 4, 4, 4, 4, 5, 5, 5, 5, 5, 5, 5, 5, 5, 5, 5, 5, 5, 5, 5, 5, 6, 6, 6, 6, 6, 6, 6, 6, 6, 6, 6, 6, 6, 6, 6, 6, 6, 6, 6, 6, 6, 6, 6, 6, 6, 6, 6, 6, 6, 6, 6, 6, 7, 7, 7, 7, 7, 7, 7, 7, 7, 7, 7, 7, 7, 7, 7, 7, 7, 7, 7, 7, 7, 7, 7, 7, 7, 7, 7, 7, 7, 7, 7, 7, 7, 7, 7, 7, 7, 7, 7, 7, 7, 7, 7, 7, 7, 7, 7, 7, 7, 7, 7, 7, 7, 7, 7, 7, 7, 7, 7, 7, 7, 7, 7, 7, 8, 8, 8, 8, 8, 8, 8, 8, 8, 8, 8, 8, 8, 8, 8, 8, 8, 8, 8, 8, 8, 8, 8, 8, 8, 8, 8, 8, 8, 8, 8, 8, 8, 8, 8, 8, 8, 8, 8, 8, 8, 8, 8, 8, 8, 8, 8, 8, 8, 8, 8, 8, 8, 8, 8, 8, 8, 8, 8, 8, 8, 8, 8, 8, 8, 8, 8, 8, 8, 8, 8, 8, 8, 8, 8, 8, 8, 8, 8, 8, 8, 8, 8, 8, 8, 8, 8, 8, 8, 8, 8, 8, 8, 8, 8, 8, 8, 8, 8, 8, 8, 8, 8, 8, 8, 8, 8, 8, 8, 8, 8, 8, 8, 8, 8, 8, 8, 8, 8, 8, 8, 8, 8, 8, 8, 8, 8, 8]⟩ : Nat) : Int))) (V.lt (IntKind.wrap .i64 (8 + (IntKind.wrap .i64 ((V.byteAt ⟨#[0, 1, 2, 2, 3, 3, 3, 3, 4, 4, 4, 4, 4, 4, 4, 4, 5, 5, 5, 5, 5, 5, 5, 5, 5, 5, 5, 5, 5, 5, 5, 5, 6, 6, 6, 6, 6, 6, 6, 6, 6, 6, 6, 6, 6, 6, 6, 6, 6, 6, 6, 6, 6, 6, 6, 6, 6, 6, 6, 6, 6, 6, 6, 6, 7, 7, 7, 7, 7, 7, 7, 7, 7, 7, 7, 7, 7, 7, 7, 7, 7, 7, 7, 7, 7, 7, 7, 7, 7, 7, 7, 7, 7, 7, 7, 7, 7, 7, 7, 7, 7, 7, 7, 7, 7, 7, 7, 7, 7, 7, 7, 7, 7, 7, 7, 7, 7, 7, 7, 7, 7, 7, 7, 7, 7, 7, 7, 7, 8, 8, 8, 8, 8, 8, 8, 8, 8, 8, 8, 8, 8, 8, 8, 8, 8, 8, 8, 8, 8, 8, 8, 8, 8, 8, 8, 8, 8, 8, 8, 8, 8, 8, 8, 8, 8, 8, 8, 8, 8, 8, 8, 8, 8, 8, 8, 8, 8, 8, 8, 8, 8, 8, 8, 8, 8, 8, 8, 8, 8, 8, 8, 8, 8, 8, 8, 8, 8, 8, 8, 8, 8, 8, 8, 8, 8, 8, 8, 8, 8, 8, 8, 8, 8, 8, 8, 8, 8, 8, 8, 8, 8, 8, 8, 8, 8, 8, 8, 8, 8, 8, 8, 8, 8, 8, 8, 8, 8, 8, 8, 8, 8, 8, 8, 8, 8, 8, 8, 8, 8, 8, 8, 8, 8, 8, 8, 8]⟩ (IntKind.wrap .u8 ((Int.fdiv x_1 (2 ^ 8))))))))) fun x11 =>
  R (Ending.returned (Value.int .i64 x11)) w))
  (V.when (decide ((0 : Int) ≤ (IntKind.wrap .u8 (x_1)) ∧ ((IntKind.wrap .u8 (x_1)) : Int) < ((ByteArray.size ⟨#[0, 1, 2, 2, 3, 3, 3, 3, 4, 4, 4, 4, 4, 4, 4, 4, 5, 5, 5, 5, 5, 5, 5, 5, 5, 5, 5, 5, 5, 5, 5, 5, 6, 6, 6, 6, 6, 6, 6, 6, 6, 6, 6, 6, 6, 6, 6, 6, 6, 6, 6, 6, 6, 6, 6, 6, 6, 6, 6, 6, 6, 6, 6, 6, 7, 7, 7, 7, 7, 7, 7, 7, 7, 7, 7, 7, 7, 7, 7, 7, 7, 7, 7, 7, 7, 7, 7, 7, 7, 7, 7, 7, 7, 7, 7, 7, 7, 7, 7, 7, 7, 7, 7, 7, 7, 7, 7, 7, 7, 7, 7, 7, 7, 7, 7, 7, 7, 7, 7, 7, 7, 7, 7, 7, 7, 7, 7, 7, 8, 8, 8, 8, 8, 8, 8, 8, 8, 8, 8, 8, 8, 8, 8, 8, 8, 8, 8, 8, 8, 8, 8, 8, 8, 8, 8, 8, 8, 8, 8, 8, 8, 8, 8, 8, 8, 8, 8, 8, 8, 8, 8, 8, 8, 8, 8, 8, 8, 8, 8, 8, 8, 8, 8, 8, 8, 8, 8, 8, 8, 8, 8, 8, 8, 8, 8, 8, 8, 8, 8, 8, 8, 8, 8, 8, 8, 8, 8, 8, 8, 8, 8, 8, 8, 8, 8, 8, 8, 8, 8, 8, 8, 8, 8, 8, 8, 8, 8, 8, 8, 8, 8, 8, 8, 8, 8, 8, 8, 8, 8, 8, 8, 8, 8, 8, 8, 8, 8, 8, 8, 8, 8, 8, 8, 8, 8, 8]⟩ : Nat) : Int))) (V.lt (IntKind.wrap .i64 (0 + (IntKind.wrap .i64 ((V.byteAt ⟨#[0, 1, 2, 2, 3, 3, 3, 3, 4, 4, 4, 4, 4, 4, 4, 4, 5, 5, 5, 5, 5, 5, 5, 5, 5, 5, 5, 5, 5, 5, 5, 5, 6, 6, 6, 6, 6, 6, 6, 6, 6, 6, 6, 6, 6, 6, 6, 6, 6, 6, 6, 6, 6, 6, 6, 6, 6, 6, 6, 6, 6, 6, 6, 6, 7, 7, 7, 7, 7, 7, 7, 7, 7, 7, 7, 7, 7, 7, 7, 7, 7, 7, 7, 7, 7, 7, 7, 7, 7, 7, 7, 7, 7, 7, 7, 7, 7, 7, 7, 7, 7, 7, 7, 7, 7, 7, 7, 7, 7, 7, 7, 7, 7, 7, 7, 7, 7, 7, 7, 7, 7, 7, 7, 7, 7, 7, 7, 7, 8, 8, 8, 8, 8, 8, 8, 8, 8, 8, 8, 8, 8, 8, 8, 8, 8, 8, 8, 8, 8, 8, 8, 8, 8, 8, 8, 8, 8, 8, 8, 8, 8, 8, 8, 8, 8, 8, 8, 8, 8, 8, 8, 8, 8, 8, 8, 8, 8, 8, 8, 8, 8, 8, 8, 8, 8, 8, 8, 8, 8, 8, 8, 8, 8, 8, 8, 8, 8, 8, 8, 8, 8, 8, 8, 8, 8, 8, 8, 8, 8, 8, 8, 8, 8, 8, 8, 8, 8, 8, 8, 8, 8, 8, 8, 8, 8, 8, 8, 8, 8, 8, 8, 8, 8, 8, 8, 8, 8, 8, 8, 8, 8, 8, 8, 8, 8, 8, 8, 8, 8, 8, 8, 8, 8, 8, 8, 8]⟩ (IntKind.wrap .u8 (x_1))))))) fun x12 =>
  R (Ending.returned (Value.int .i64 x12)) w))))) :
  Calls Try.prog 57 #[(Value.int .u64 x_1)] w R :=
  V.calls_of_R ⟨V.assoc [], V.assocP [], V.assocC [], V.assocS [], ⟨[], true⟩⟩ Try.func57 rfl (Eq.mp (by kernel_rfl) h)

theorem berthref05_badName_nf (name_1 : ByteArray) (w : World) (R : Ending → World → Prop) (h :
  V.sel (decide (((ByteArray.size name_1 : Nat) : Int) < 1))
  (R (Ending.returned (Value.bool true)) w)
  (R (Ending.returned (Value.bool (decide (((ByteArray.size name_1 : Nat) : Int) > 63)))) w)) :
  Calls Try.prog 58 #[(Value.string name_1)] w R :=
  V.calls_of_R ⟨V.assoc [], V.assocP [], V.assocC [], V.assocS [], ⟨[], true⟩⟩ Try.func58 rfl (Eq.mp (by kernel_rfl) h)

theorem slices_siftDownOrdered_string__nf (data_1 : Option Addr) (data_1l : Nat) (data_1c : Nat) (lo_2 : Int) (hi_3 : Int) (first_4 : Int) (w : World) (R : Ending → World → Prop) (h :
  ∃ I5 : Int → World → Prop, ∃ μ6 : Int → World → Nat, I5 lo_2 w ∧
  ∀ root_7 (j8 : Nat → Value) (w9 : World), I5 root_7 w9 →
  (V.lt (IntKind.wrap .i64 ((IntKind.wrap .i64 (2 * root_7)) + 1)) fun x10 =>
  V.sel (decide (x10 ≥ hi_3))
  (R (Ending.returned undef) w9)
  (∃ S11 : World → Prop, S11 (World.drew w9) ∧
  V.sel (decide ((IntKind.wrap .i64 (x10 + 1)) < hi_3))
  (V.when (decide ((0 : Int) ≤ (IntKind.wrap .i64 (first_4 + x10)) ∧ ((IntKind.wrap .i64 (first_4 + x10)) : Int) < ((data_1l : Nat) : Int))) (V.ptr data_1 fun a13 =>
  ∃ s14, (∀ w12, S11 w12 → World.cell? w12 (Addr.add a13 ((Int.toNat (IntKind.wrap .i64 (first_4 + x10))) * 1)) = some (Value.string s14)) ∧
  V.when (decide ((0 : Int) ≤ (IntKind.wrap .i64 ((IntKind.wrap .i64 (first_4 + x10)) + 1)) ∧ ((IntKind.wrap .i64 ((IntKind.wrap .i64 (first_4 + x10)) + 1)) : Int) < ((data_1l : Nat) : Int))) (V.ptr data_1 fun a15 =>
  ∃ s16, (∀ w12, S11 w12 → World.cell? w12 (Addr.add a15 ((Int.toNat (IntKind.wrap .i64 ((IntKind.wrap .i64 (first_4 + x10)) + 1))) * 1)) = some (Value.string s16)) ∧
  Calls Try.prog 53 #[(Value.string s14), (Value.string s16)] (World.drew w9) fun e18 w19 =>
  ∃ b17, e18 = Ending.returned (Value.bool b17) ∧
  S11 w19 ∧
  V.sel b17
  (∃ S20 : World → Prop, S20 (World.drew w19) ∧
  V.when (decide ((0 : Int) ≤ (IntKind.wrap .i64 (first_4 + root_7)) ∧ ((IntKind.wrap .i64 (first_4 + root_7)) : Int) < ((data_1l : Nat) : Int))) (V.ptr data_1 fun a22 =>
  ∃ s23, (∀ w21, S20 w21 → World.cell? w21 (Addr.add a22 ((Int.toNat (IntKind.wrap .i64 (first_4 + root_7))) * 1)) = some (Value.string s23)) ∧
  V.when (decide ((0 : Int) ≤ (IntKind.wrap .i64 (first_4 + (IntKind.wrap .i64 (x10 + 1)))) ∧ ((IntKind.wrap .i64 (first_4 + (IntKind.wrap .i64 (x10 + 1)))) : Int) < ((data_1l : Nat) : Int))) (V.ptr data_1 fun a24 =>
  ∃ s25, (∀ w21, S20 w21 → World.cell? w21 (Addr.add a24 ((Int.toNat (IntKind.wrap .i64 (first_4 + (IntKind.wrap .i64 (x10 + 1))))) * 1)) = some (Value.string s25)) ∧
  Calls Try.prog 53 #[(Value.string s23), (Value.string s25)] (World.drew w19) fun e27 w28 =>
  ∃ b26, e27 = Ending.returned (Value.bool b26) ∧
  S20 w28 ∧
  V.sel (!b26)
  (R (Ending.returned undef) w28)
  (∃ S29 : World → Prop, S29 (World.drew w28) ∧
  V.when (decide ((0 : Int) ≤ (IntKind.wrap .i64 (first_4 + (IntKind.wrap .i64 (x10 + 1)))) ∧ ((IntKind.wrap .i64 (first_4 + (IntKind.wrap .i64 (x10 + 1)))) : Int) < ((data_1l : Nat) : Int))) (V.ptr data_1 fun a31 =>
  ∃ s32, (∀ w30, S29 w30 → World.cell? w30 (Addr.add a31 ((Int.toNat (IntKind.wrap .i64 (first_4 + (IntKind.wrap .i64 (x10 + 1))))) * 1)) = some (Value.string s32)) ∧
  V.when (decide ((0 : Int) ≤ (IntKind.wrap .i64 (first_4 + root_7)) ∧ ((IntKind.wrap .i64 (first_4 + root_7)) : Int) < ((data_1l : Nat) : Int))) (V.ptr data_1 fun a33 =>
  ∃ s34, (∀ w30, S29 w30 → World.cell? w30 (Addr.add a33 ((Int.toNat (IntKind.wrap .i64 (first_4 + root_7))) * 1)) = some (Value.string s34)) ∧
  V.when (decide ((0 : Int) ≤ (IntKind.wrap .i64 (first_4 + root_7)) ∧ ((IntKind.wrap .i64 (first_4 + root_7)) : Int) < ((data_1l : Nat) : Int))) (V.ptr data_1 fun a35 =>
  ∃ w36, Sem.run Try.prog (Instr.storeAt 9 (Value.pointer (some (Addr.add a35 ((Int.toNat (IntKind.wrap .i64 (first_4 + root_7))) * 1)))) (Value.string s32)) (World.drew w28) = .ok () w36 ∧
  S29 w36 ∧
  V.when (decide ((0 : Int) ≤ (IntKind.wrap .i64 (first_4 + (IntKind.wrap .i64 (x10 + 1)))) ∧ ((IntKind.wrap .i64 (first_4 + (IntKind.wrap .i64 (x10 + 1)))) : Int) < ((data_1l : Nat) : Int))) (V.ptr data_1 fun a37 =>
  ∃ w38, Sem.run Try.prog (Instr.storeAt 9 (Value.pointer (some (Addr.add a37 ((Int.toNat (IntKind.wrap .i64 (first_4 + (IntKind.wrap .i64 (x10 + 1))))) * 1)))) (Value.string s34)) w36 = .ok () w38 ∧
  I5 (IntKind.wrap .i64 (x10 + 1)) w38 ∧ μ6 (IntKind.wrap .i64 (x10 + 1)) w38 < μ6 root_7 w9))))))))
  (∃ S39 : World → Prop, S39 (World.drew w19) ∧
  V.when (decide ((0 : Int) ≤ (IntKind.wrap .i64 (first_4 + root_7)) ∧ ((IntKind.wrap .i64 (first_4 + root_7)) : Int) < ((data_1l : Nat) : Int))) (V.ptr data_1 fun a41 =>
  ∃ s42, (∀ w40, S39 w40 → World.cell? w40 (Addr.add a41 ((Int.toNat (IntKind.wrap .i64 (first_4 + root_7))) * 1)) = some (Value.string s42)) ∧
  V.when (decide ((0 : Int) ≤ (IntKind.wrap .i64 (first_4 + x10)) ∧ ((IntKind.wrap .i64 (first_4 + x10)) : Int) < ((data_1l : Nat) : Int))) (V.ptr data_1 fun a43 =>
  ∃ s44, (∀ w40, S39 w40 → World.cell? w40 (Addr.add a43 ((Int.toNat (IntKind.wrap .i64 (first_4 + x10))) * 1)) = some (Value.string s44)) ∧
  Calls Try.prog 53 #[(Value.string s42), (Value.string s44)] (World.drew w19) fun e46 w47 =>
  ∃ b45, e46 = Ending.returned (Value.bool b45) ∧
  S39 w47 ∧
  V.sel (!b45)
  (R (Ending.returned undef) w47)
  (∃ S48 : World → Prop, S48 (World.drew w47) ∧
  V.when (decide ((0 : Int) ≤ (IntKind.wrap .i64 (first_4 + x10)) ∧ ((IntKind.wrap .i64 (first_4 + x10)) : Int) < ((data_1l : Nat) : Int))) (V.ptr data_1 fun a50 =>
  ∃ s51, (∀ w49, S48 w49 → World.cell? w49 (Addr.add a50 ((Int.toNat (IntKind.wrap .i64 (first_4 + x10))) * 1)) = some (Value.string s51)) ∧
  V.when (decide ((0 : Int) ≤ (IntKind.wrap .i64 (first_4 + root_7)) ∧ ((IntKind.wrap .i64 (first_4 + root_7)) : Int) < ((data_1l : Nat) : Int))) (V.ptr data_1 fun a52 =>
  ∃ s53, (∀ w49, S48 w49 → World.cell? w49 (Addr.add a52 ((Int.toNat (IntKind.wrap .i64 (first_4 + root_7))) * 1)) = some (Value.string s53)) ∧
  V.when (decide ((0 : Int) ≤ (IntKind.wrap .i64 (first_4 + root_7)) ∧ ((IntKind.wrap .i64 (first_4 + root_7)) : Int) < ((data_1l : Nat) : Int))) (V.ptr data_1 fun a54 =>
  ∃ w55, Sem.run Try.prog (Instr.storeAt 9 (Value.pointer (some (Addr.add a54 ((Int.toNat (IntKind.wrap .i64 (first_4 + root_7))) * 1)))) (Value.string s51)) (World.drew w47) = .ok () w55 ∧
  S48 w55 ∧
  V.when (decide ((0 : Int) ≤ (IntKind.wrap .i64 (first_4 + x10)) ∧ ((IntKind.wrap .i64 (first_4 + x10)) : Int) < ((data_1l : Nat) : Int))) (V.ptr data_1 fun a56 =>
  ∃ w57, Sem.run Try.prog (Instr.storeAt 9 (Value.pointer (some (Addr.add a56 ((Int.toNat (IntKind.wrap .i64 (first_4 + x10))) * 1)))) (Value.string s53)) w55 = .ok () w57 ∧
  I5 x10 w57 ∧ μ6 x10 w57 < μ6 root_7 w9)))))))))))
  (∃ S58 : World → Prop, S58 (World.drew (World.drew w9)) ∧
  V.when (decide ((0 : Int) ≤ (IntKind.wrap .i64 (first_4 + root_7)) ∧ ((IntKind.wrap .i64 (first_4 + root_7)) : Int) < ((data_1l : Nat) : Int))) (V.ptr data_1 fun a60 =>
  ∃ s61, (∀ w59, S58 w59 → World.cell? w59 (Addr.add a60 ((Int.toNat (IntKind.wrap .i64 (first_4 + root_7))) * 1)) = some (Value.string s61)) ∧
  V.when (decide ((0 : Int) ≤ (IntKind.wrap .i64 (first_4 + x10)) ∧ ((IntKind.wrap .i64 (first_4 + x10)) : Int) < ((data_1l : Nat) : Int))) (V.ptr data_1 fun a62 =>
  ∃ s63, (∀ w59, S58 w59 → World.cell? w59 (Addr.add a62 ((Int.toNat (IntKind.wrap .i64 (first_4 + x10))) * 1)) = some (Value.string s63)) ∧
  Calls Try.prog 53 #[(Value.string s61), (Value.string s63)] (World.drew (World.drew w9)) fun e65 w66 =>
  ∃ b64, e65 = Ending.returned (Value.bool b64) ∧
  S58 w66 ∧
  V.sel (!b64)
  (R (Ending.returned undef) w66)
  (∃ S67 : World → Prop, S67 (World.drew w66) ∧
  V.when (decide ((0 : Int) ≤ (IntKind.wrap .i64 (first_4 + x10)) ∧ ((IntKind.wrap .i64 (first_4 + x10)) : Int) < ((data_1l : Nat) : Int))) (V.ptr data_1 fun a69 =>
  ∃ s70, (∀ w68, S67 w68 → World.cell? w68 (Addr.add a69 ((Int.toNat (IntKind.wrap .i64 (first_4 + x10))) * 1)) = some (Value.string s70)) ∧
  V.when (decide ((0 : Int) ≤ (IntKind.wrap .i64 (first_4 + root_7)) ∧ ((IntKind.wrap .i64 (first_4 + root_7)) : Int) < ((data_1l : Nat) : Int))) (V.ptr data_1 fun a71 =>
  ∃ s72, (∀ w68, S67 w68 → World.cell? w68 (Addr.add a71 ((Int.toNat (IntKind.wrap .i64 (first_4 + root_7))) * 1)) = some (Value.string s72)) ∧
  V.when (decide ((0 : Int) ≤ (IntKind.wrap .i64 (first_4 + root_7)) ∧ ((IntKind.wrap .i64 (first_4 + root_7)) : Int) < ((data_1l : Nat) : Int))) (V.ptr data_1 fun a73 =>
  ∃ w74, Sem.run Try.prog (Instr.storeAt 9 (Value.pointer (some (Addr.add a73 ((Int.toNat (IntKind.wrap .i64 (first_4 + root_7))) * 1)))) (Value.string s70)) (World.drew w66) = .ok () w74 ∧
  S67 w74 ∧
  V.when (decide ((0 : Int) ≤ (IntKind.wrap .i64 (first_4 + x10)) ∧ ((IntKind.wrap .i64 (first_4 + x10)) : Int) < ((data_1l : Nat) : Int))) (V.ptr data_1 fun a75 =>
  ∃ w76, Sem.run Try.prog (Instr.storeAt 9 (Value.pointer (some (Addr.add a75 ((Int.toNat (IntKind.wrap .i64 (first_4 + x10))) * 1)))) (Value.string s72)) w74 = .ok () w76 ∧
  I5 x10 w76 ∧ μ6 x10 w76 < μ6 root_7 w9))))))))))) :
  Calls Try.prog 59 #[(Value.slice data_1 data_1l data_1c), (Value.int .i64 lo_2), (Value.int .i64 hi_3), (Value.int .i64 first_4)] w R :=
  V.calls_of_R ⟨V.assoc [(0, [8])], V.assocP [(3, V.line [0, 1, 2, 3, 4, 5, 6, 7, 8, 9, 10, 11, 12, 13, 14, 15, 16, 17, 18, 19]), (5, V.line [0, 1, 2, 3, 4, 5, 6, 7, 8, 9, 10, 11, 12, 13]), (6, V.line [0, 1, 2, 3, 4, 5, 6, 7, 8, 9, 10, 11, 12, 13, 14, 15, 16, 17, 18, 19, 20, 21, 22, 23])], V.assocC [], V.assocS [], ⟨[], true⟩⟩ Try.func59 rfl (Eq.mp (by kernel_rfl) h)

theorem slices_nextPowerOfTwo_nf (length_1 : Int) (w : World) (R : Ending → World → Prop) (h :
  Calls Try.prog 43 #[(Value.int .u64 (IntKind.wrap .u64 (length_1)))] w fun e3 w4 =>
  ∃ n2, e3 = Ending.returned (Value.int .i64 n2) ∧
  V.when (decide (0 ≤ n2)) (V.lt (IntKind.wrap .u64 (1 * 2 ^ (min (Int.toNat n2) 64))) fun x5 =>
  R (Ending.returned (Value.int .u64 x5)) w4)) :
  Calls Try.prog 60 #[(Value.int .i64 length_1)] w R :=
  V.calls_of_R ⟨V.assoc [], V.assocP [], V.assocC [], V.assocS [], ⟨[], true⟩⟩ Try.func60 rfl (Eq.mp (by kernel_rfl) h)

theorem slices_xorshift_Next_nf (r_1 : Option Addr) (w : World) (R : Ending → World → Prop) (h :
  V.ptr r_1 fun a2 =>
  ∃ n3, World.cell? w a2 = some (Value.int .u64 n3) ∧
  V.ptr r_1 fun a4 =>
  ∃ n5, World.cell? w a4 = some (Value.int .u64 n5) ∧
  V.ptr r_1 fun a6 =>
  ∃ w7, Sem.run Try.prog (Instr.storeAt 109 (Value.pointer (some a6)) (Value.int .u64 (IntKind.wrap .u64 ((BitVec.toNat (BitVec.ofInt 64 n3 ^^^ BitVec.ofInt 64 (IntKind.wrap .u64 (n5 * 2 ^ 13))) : Nat) : Int)))) (World.drew w) = .ok () w7 ∧
  V.ptr r_1 fun a8 =>
  ∃ n9, World.cell? w7 a8 = some (Value.int .u64 n9) ∧
  V.ptr r_1 fun a10 =>
  ∃ n11, World.cell? w7 a10 = some (Value.int .u64 n11) ∧
  V.ptr r_1 fun a12 =>
  ∃ w13, Sem.run Try.prog (Instr.storeAt 109 (Value.pointer (some a12)) (Value.int .u64 (IntKind.wrap .u64 ((BitVec.toNat (BitVec.ofInt 64 n9 ^^^ BitVec.ofInt 64 (Int.fdiv n11 (2 ^ 7))) : Nat) : Int)))) (World.drew w7) = .ok () w13 ∧
  V.ptr r_1 fun a14 =>
  ∃ n15, World.cell? w13 a14 = some (Value.int .u64 n15) ∧
  V.ptr r_1 fun a16 =>
  ∃ n17, World.cell? w13 a16 = some (Value.int .u64 n17) ∧
  V.ptr r_1 fun a18 =>
  ∃ w19, Sem.run Try.prog (Instr.storeAt 109 (Value.pointer (some a18)) (Value.int .u64 (IntKind.wrap .u64 ((BitVec.toNat (BitVec.ofInt 64 n15 ^^^ BitVec.ofInt 64 (IntKind.wrap .u64 (n17 * 2 ^ 17))) : Nat) : Int)))) (World.drew w13) = .ok () w19 ∧
  V.ptr r_1 fun a20 =>
  ∃ n21, World.cell? w19 a20 = some (Value.int .u64 n21) ∧
  R (Ending.returned (Value.int .u64 n21)) w19) :
  Calls Try.prog 61 #[(Value.pointer r_1)] w R :=
  V.calls_of_R ⟨V.assoc [], V.assocP [(1, V.line [0, 1, 2, 3, 4, 5, 6, 7, 8, 9]), (2, V.line [0, 1, 2, 3, 4, 5, 6, 7, 8, 9]), (3, V.line [0, 1, 2, 3, 4, 5, 6, 7, 8, 9])], V.assocC [], V.assocS [], ⟨[], true⟩⟩ Try.func61 rfl (Eq.mp (by kernel_rfl) h)

theorem slices_medianAdjacentOrdered_string__nf (data_1 : Option Addr) (data_1l : Nat) (data_1c : Nat) (a_2 : Int) (swaps_3 : Option Addr) (w : World) (R : Ending → World → Prop) (h :
  Calls Try.prog 63 #[(Value.slice data_1 data_1l data_1c), (Value.int .i64 (IntKind.wrap .i64 (a_2 - 1))), (Value.int .i64 a_2), (Value.int .i64 (IntKind.wrap .i64 (a_2 + 1))), (Value.pointer swaps_3)] w fun e5 w6 =>
  ∃ n4, e5 = Ending.returned (Value.int .i64 n4) ∧
  R (Ending.returned (Value.int .i64 n4)) w6) :
  Calls Try.prog 62 #[(Value.slice data_1 data_1l data_1c), (Value.int .i64 a_2), (Value.pointer swaps_3)] w R :=
  V.calls_of_R ⟨V.assoc [], V.assocP [], V.assocC [], V.assocS [], ⟨[], true⟩⟩ Try.func62 rfl (Eq.mp (by kernel_rfl) h)

theorem slices_medianOrdered_string__nf (data_1 : Option Addr) (data_1l : Nat) (data_1c : Nat) (a_2 : Int) (b_3 : Int) (c_4 : Int) (swaps_5 : Option Addr) (w : World) (R : Ending → World → Prop) (h :
  Calls Try.prog 65 #[(Value.slice data_1 data_1l data_1c), (Value.int .i64 a_2), (Value.int .i64 b_3), (Value.pointer swaps_5)] w fun e8 w9 =>
  ∃ n6, ∃ n7, e8 = Ending.returned (Value.tuple #[(Value.int .i64 n6), (Value.int .i64 n7)]) ∧
  Calls Try.prog 65 #[(Value.slice data_1 data_1l data_1c), (Value.int .i64 n7), (Value.int .i64 c_4), (Value.pointer swaps_5)] w9 fun e12 w13 =>
  ∃ n10, ∃ n11, e12 = Ending.returned (Value.tuple #[(Value.int .i64 n10), (Value.int .i64 n11)]) ∧
  Calls Try.prog 65 #[(Value.slice data_1 data_1l data_1c), (Value.int .i64 n6), (Value.int .i64 n10), (Value.pointer swaps_5)] w13 fun e16 w17 =>
  ∃ n14, ∃ n15, e16 = Ending.returned (Value.tuple #[(Value.int .i64 n14), (Value.int .i64 n15)]) ∧
  R (Ending.returned (Value.int .i64 n15)) w17) :
  Calls Try.prog 63 #[(Value.slice data_1 data_1l data_1c), (Value.int .i64 a_2), (Value.int .i64 b_3), (Value.int .i64 c_4), (Value.pointer swaps_5)] w R :=
  V.calls_of_R ⟨V.assoc [], V.assocP [], V.assocC [], V.assocS [], ⟨[], true⟩⟩ Try.func63 rfl (Eq.mp (by kernel_rfl) h)

theorem cmp_isNaN_string__nf (x_1 : ByteArray) (w : World) (R : Ending → World → Prop) (h :
  R (Ending.returned (Value.bool (!(ByteArray.toList x_1 == ByteArray.toList x_1)))) w) :
  Calls Try.prog 64 #[(Value.string x_1)] w R :=
  V.calls_of_R ⟨V.assoc [], V.assocP [], V.assocC [], V.assocS [], ⟨[], true⟩⟩ Try.func64 rfl (Eq.mp (by kernel_rfl) h)

theorem slices_order2Ordered_string__nf (data_1 : Option Addr) (data_1l : Nat) (data_1c : Nat) (a_2 : Int) (b_3 : Int) (swaps_4 : Option Addr) (w : World) (R : Ending → World → Prop) (h :
  ∃ S5 : World → Prop, S5 (World.drew w) ∧
  V.when (decide ((0 : Int) ≤ b_3 ∧ (b_3 : Int) < ((data_1l : Nat) : Int))) (V.ptr data_1 fun a7 =>
  ∃ s8, (∀ w6, S5 w6 → World.cell? w6 (Addr.add a7 ((Int.toNat b_3) * 1)) = some (Value.string s8)) ∧
  V.when (decide ((0 : Int) ≤ a_2 ∧ (a_2 : Int) < ((data_1l : Nat) : Int))) (V.ptr data_1 fun a9 =>
  ∃ s10, (∀ w6, S5 w6 → World.cell? w6 (Addr.add a9 ((Int.toNat a_2) * 1)) = some (Value.string s10)) ∧
  Calls Try.prog 53 #[(Value.string s8), (Value.string s10)] (World.drew w) fun e12 w13 =>
  ∃ b11, e12 = Ending.returned (Value.bool b11) ∧
  S5 w13 ∧
  V.sel b11
  (V.ptr swaps_4 fun a14 =>
  ∃ n15, World.cell? w13 a14 = some (Value.int .i64 n15) ∧
  V.ptr swaps_4 fun a16 =>
  ∃ w17, Sem.run Try.prog (Instr.storeAt 3 (Value.pointer (some a16)) (Value.int .i64 (IntKind.wrap .i64 (n15 + 1)))) w13 = .ok () w17 ∧
  R (Ending.returned (Value.tuple #[(Value.int .i64 b_3), (Value.int .i64 a_2)])) w17)
  (R (Ending.returned (Value.tuple #[(Value.int .i64 a_2), (Value.int .i64 b_3)])) w13)))) :
  Calls Try.prog 65 #[(Value.slice data_1 data_1l data_1c), (Value.int .i64 a_2), (Value.int .i64 b_3), (Value.pointer swaps_4)] w R :=
  V.calls_of_R ⟨V.assoc [], V.assocP [(1, V.line [0, 1, 2, 3, 4, 5, 6, 7, 8])], V.assocC [], V.assocS [], ⟨[], true⟩⟩ Try.func65 rfl (Eq.mp (by kernel_rfl) h)

end Go.Proofs.Ytcampkaenlohbaa
