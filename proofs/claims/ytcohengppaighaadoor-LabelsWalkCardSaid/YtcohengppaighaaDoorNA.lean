/- All normal forms. -/
import Derived.Test.YtcohengppaighaaDoorN0
import Derived.Test.YtcohengppaighaaDoorN1
import Derived.Test.YtcohengppaighaaDoorN2
import Derived.Test.YtcohengppaighaaDoorN3
import Derived.Test.YtcohengppaighaaDoorN4
import Derived.Test.YtcohengppaighaaDoorN5
