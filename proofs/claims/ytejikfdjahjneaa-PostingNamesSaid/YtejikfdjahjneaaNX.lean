/- Normal forms of some of the program's functions, printed by a program of mine; the kernel checks each. -/
import Derived.Test.YtejikfdjahjneaaProg
import Derived.Test.YtejikfdjahjneaaV2
set_option linter.unusedVariables false
set_option maxRecDepth 100000
namespace Go.Proofs.Ytejikfdjahjneaa
open Go

theorem berthlaw07_PostingNames_nf  (w : World) (R : Ending → World → Prop) (h :
  Calls Try.prog 4 #[(Value.int .i64 1)] w fun e2 w3 =>
  ∃ n1, e2 = Ending.returned (Value.int .i64 n1) ∧
  V.sel (n1 == 1)
  (Calls Try.prog 4 #[(Value.int .i64 70)] w3 fun e5 w6 =>
  ∃ n4, e5 = Ending.returned (Value.int .i64 n4) ∧
  V.sel (n4 == 70)
  (Calls Try.prog 4 #[(Value.int .i64 71)] w6 fun e8 w9 =>
  ∃ n7, e8 = Ending.returned (Value.int .i64 n7) ∧
  V.sel (n7 == 71)
  (Calls Try.prog 4 #[(Value.int .i64 72)] w9 fun e11 w12 =>
  ∃ n10, e11 = Ending.returned (Value.int .i64 n10) ∧
  V.sel (n10 == 72)
  (Calls Try.prog 4 #[(Value.int .i64 11)] w12 fun e14 w15 =>
  ∃ n13, e14 = Ending.returned (Value.int .i64 n13) ∧
  V.sel (n13 == 11)
  (R (Ending.returned (Value.bool true)) w15)
  (R (Ending.returned (Value.bool false)) w15))
  (R (Ending.returned (Value.bool false)) w12))
  (R (Ending.returned (Value.bool false)) w9))
  (R (Ending.returned (Value.bool false)) w6))
  (R (Ending.returned (Value.bool false)) w3)) :
  Calls Try.prog 3 #[] w R :=
  V.calls_of_R ⟨V.assoc [], V.assocP [], V.assocC [], V.assocS [], ⟨[], true⟩⟩ Try.func3 rfl (Eq.mp (by kernel_rfl) h)

theorem berthlaw07_num_nf (e_1 : Int) (w : World) (R : Ending → World → Prop) (h :
  R (Ending.returned (Value.int .i64 e_1)) w) :
  Calls Try.prog 4 #[(Value.int .i64 e_1)] w R :=
  V.calls_of_R ⟨V.assoc [], V.assocP [], V.assocC [], V.assocS [], ⟨[], true⟩⟩ Try.func4 rfl (Eq.mp (by kernel_rfl) h)

end Go.Proofs.Ytejikfdjahjneaa
