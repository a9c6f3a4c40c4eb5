/- All normal forms. -/
import Derived.Test.YtbaglnffgbnekaaDoorN0
import Derived.Test.YtbaglnffgbnekaaDoorN1
import Derived.Test.YtbaglnffgbnekaaDoorN2
import Derived.Test.YtbaglnffgbnekaaDoorN3
import Derived.Test.YtbaglnffgbnekaaDoorN4
import Derived.Test.YtbaglnffgbnekaaDoorN5
