/- Normal forms of some of the program's functions, printed by a program of mine; the kernel checks each. -/
import Derived.Test.YtcampkaenlohbaaProg
import Derived.Test.YtcampkaenlohbaaV
set_option linter.unusedVariables false
set_option maxRecDepth 100000
namespace Go.Proofs.Ytcampkaenlohbaa
open Go

theorem berthlaw05_SlotsNames_nf  (w : World) (R : Ending → World → Prop) (h :
  R (Ending.returned (Value.bool true)) w) :
  Calls Try.prog 3 #[] w R :=
  V.calls_of_V ⟨V.assoc [], V.assoc []⟩ Try.func3 rfl (Eq.mp (by kernel_rfl) h)

end Go.Proofs.Ytcampkaenlohbaa
