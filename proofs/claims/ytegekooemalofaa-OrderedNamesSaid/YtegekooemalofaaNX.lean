/- Normal forms of some of the program's functions, printed by a program of mine; the kernel checks each. -/
import Derived.Test.YtegekooemalofaaProg
import Derived.Test.YtegekooemalofaaV2
set_option linter.unusedVariables false
set_option maxRecDepth 100000
namespace Go.Proofs.Ytegekooemalofaa
open Go

theorem berthlaw08_OrderedNames_nf  (w : World) (R : Ending → World → Prop) (h :
  R (Ending.returned (Value.bool true)) w) :
  Calls Try.prog 3 #[] w R :=
  V.calls_of_R ⟨V.assoc [], V.assocP [], V.assocC [], V.assocS [], ⟨[], true⟩⟩ Try.func3 rfl (Eq.mp (by kernel_rfl) h)

end Go.Proofs.Ytegekooemalofaa
