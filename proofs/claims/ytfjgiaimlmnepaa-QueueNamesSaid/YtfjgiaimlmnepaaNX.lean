/- Normal forms of some of the program's functions, printed by a program of mine; the kernel checks each. -/
import Derived.Test.YtfjgiaimlmnepaaProg
import Derived.Test.YtfjgiaimlmnepaaV
set_option linter.unusedVariables false
set_option maxRecDepth 100000
namespace Go.Proofs.Ytfjgiaimlmnepaa
open Go

theorem berthlaw25_QueueNames_nf  (w : World) (R : Ending → World → Prop) (h :
  Calls Try.prog 11 #[(Value.int .i64 250)] w fun e2 w3 =>
  ∃ n1, e2 = Ending.returned (Value.int .i64 n1) ∧
  V.sel (n1 != 250)
  (R (Ending.returned (Value.bool false)) w3)
  (Calls Try.prog 11 #[(Value.int .i64 251)] w3 fun e5 w6 =>
  ∃ n4, e5 = Ending.returned (Value.int .i64 n4) ∧
  V.sel (n4 != 251)
  (R (Ending.returned (Value.bool false)) w6)
  (Calls Try.prog 11 #[(Value.int .i64 252)] w6 fun e8 w9 =>
  ∃ n7, e8 = Ending.returned (Value.int .i64 n7) ∧
  V.sel (n7 != 252)
  (R (Ending.returned (Value.bool false)) w9)
  (Calls Try.prog 11 #[(Value.int .i64 253)] w9 fun e11 w12 =>
  ∃ n10, e11 = Ending.returned (Value.int .i64 n10) ∧
  V.sel (n10 != 253)
  (R (Ending.returned (Value.bool false)) w12)
  (Calls Try.prog 11 #[(Value.int .i64 254)] w12 fun e14 w15 =>
  ∃ n13, e14 = Ending.returned (Value.int .i64 n13) ∧
  V.sel (n13 != 254)
  (R (Ending.returned (Value.bool false)) w15)
  (Calls Try.prog 11 #[(Value.int .i64 255)] w15 fun e17 w18 =>
  ∃ n16, e17 = Ending.returned (Value.int .i64 n16) ∧
  V.sel (n16 != 255)
  (R (Ending.returned (Value.bool false)) w18)
  (Calls Try.prog 11 #[(Value.int .i64 1)] w18 fun e20 w21 =>
  ∃ n19, e20 = Ending.returned (Value.int .i64 n19) ∧
  V.sel (n19 != 1)
  (R (Ending.returned (Value.bool false)) w21)
  (R (Ending.returned (Value.bool true)) w21)))))))) :
  Calls Try.prog 3 #[] w R :=
  V.calls_of_V ⟨V.assoc [], V.assoc []⟩ Try.func3 rfl (Eq.mp (by kernel_rfl) h)

theorem berthlaw25_num_nf (e_1 : Int) (w : World) (R : Ending → World → Prop) (h :
  R (Ending.returned (Value.int .i64 e_1)) w) :
  Calls Try.prog 11 #[(Value.int .i64 e_1)] w R :=
  V.calls_of_V ⟨V.assoc [], V.assoc []⟩ Try.func11 rfl (Eq.mp (by kernel_rfl) h)

end Go.Proofs.Ytfjgiaimlmnepaa
