/- Normal forms of the program's functions, printed by a program of mine; the kernel checks each. -/
import Derived.Test.YtpipenkaaodlgaaDoorProg
import Derived.Test.YtpipenkaaodlgaaDoorV2
set_option linter.unusedVariables false
set_option maxRecDepth 100000
namespace Go.Proofs.YtpipenkaaodlgaaDoor
open Go

theorem strings_Split_nf (s_1 : ByteArray) (sep_2 : ByteArray) (w : World) (R : Ending → World → Prop) (h :
  Calls Tryd.prog 92 #[(Value.string s_1), (Value.string sep_2), (Value.int .i64 0), (Value.int .i64 (-1))] w fun e4 w5 =>
  ∃ A3, ∃ A3l, ∃ A3c, e4 = Ending.returned (Value.slice A3 A3l A3c) ∧
  R (Ending.returned (Value.slice A3 A3l A3c)) w5) :
  Calls Tryd.prog 88 #[(Value.string s_1), (Value.string sep_2)] w R :=
  V.calls_of_R ⟨V.assoc [], V.assocP [], V.assocC [], V.assocS [], ⟨[], true⟩⟩ Tryd.func88 rfl (Eq.mp (by kernel_rfl) h)

theorem strings_Cut_nf (s_1 : ByteArray) (sep_2 : ByteArray) (w : World) (R : Ending → World → Prop) (h :
  Calls Tryd.prog 87 #[(Value.string s_1), (Value.string sep_2)] w fun e6 w7 =>
  ∃ s3, ∃ s4, ∃ b5, e6 = Ending.returned (Value.tuple #[(Value.string s3), (Value.string s4), (Value.bool b5)]) ∧
  R (Ending.returned (Value.tuple #[(Value.string s3), (Value.string s4), (Value.bool b5)])) w7) :
  Calls Tryd.prog 76 #[(Value.string s_1), (Value.string sep_2)] w R :=
  V.calls_of_R ⟨V.assoc [], V.assocP [], V.assocC [], V.assocS [], ⟨[], true⟩⟩ Tryd.func76 rfl (Eq.mp (by kernel_rfl) h)

theorem internal_stringslite_Cut_nf (s_1 : ByteArray) (sep_2 : ByteArray) (w : World) (R : Ending → World → Prop) (h :
  Calls Tryd.prog 91 #[(Value.string s_1), (Value.string sep_2)] w fun e4 w5 =>
  ∃ n3, e4 = Ending.returned (Value.int .i64 n3) ∧
  V.sel (decide (n3 ≥ 0))
  (V.when (decide ((0 : Int) ≤ n3 ∧ (n3 : Int) ≤ (((ByteArray.size s_1) : Nat) : Int))) (V.when (decide ((0 : Int) ≤ (IntKind.wrap .i64 (n3 + ((ByteArray.size sep_2 : Nat) : Int))) ∧ ((IntKind.wrap .i64 (n3 + ((ByteArray.size sep_2 : Nat) : Int))) : Int) ≤ (((ByteArray.size s_1) : Nat) : Int))) (R (Ending.returned (Value.tuple #[(Value.string (ByteArray.extract s_1 0 (Int.toNat n3))), (Value.string (ByteArray.extract s_1 (Int.toNat (IntKind.wrap .i64 (n3 + ((ByteArray.size sep_2 : Nat) : Int)))) (ByteArray.size s_1))), (Value.bool true)])) (World.drew w5))))
  (R (Ending.returned (Value.tuple #[(Value.string s_1), (Value.string ByteArray.empty), (Value.bool false)])) w5)) :
  Calls Tryd.prog 87 #[(Value.string s_1), (Value.string sep_2)] w R :=
  V.calls_of_R ⟨V.assoc [], V.assocP [(3, V.line [0, 1, 2, 3, 4, 5, 6, 7, 8, 9, 10, 11])], V.assocC [], V.assocS [], ⟨[], true⟩⟩ Tryd.func87 rfl (Eq.mp (by kernel_rfl) h)

end Go.Proofs.YtpipenkaaodlgaaDoor
