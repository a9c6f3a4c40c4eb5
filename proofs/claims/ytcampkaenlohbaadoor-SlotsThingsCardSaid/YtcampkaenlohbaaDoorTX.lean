/- Slots: the text that a table of texts keeps with a name. -/
import Derived.Test.YtcampkaenlohbaaDoorF1
import Derived.Test.YtcampkaenlohbaaDoorK9
set_option linter.unusedVariables false
set_option linter.unusedSimpArgs false
namespace Go.Proofs.YtcampkaenlohbaaDoor
open Go Go.V Go.B
/-- The text of a number. -/
def nt (v : Int) : ByteArray := ⟨(Go.Lib.itoa v).toArray⟩
/-- What stands beside a row: its number's text; nothing where nobody is. -/
def tx (x : Rw) : ByteArray := if x.held then nt x.v else ByteArray.empty
theorem tx_held {x : Rw} (h : x.held = true) : tx x = nt x.v := if_pos h
end Go.Proofs.YtcampkaenlohbaaDoor
