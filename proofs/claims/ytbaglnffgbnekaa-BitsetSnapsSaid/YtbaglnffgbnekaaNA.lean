/- All normal forms. -/
import Derived.Test.YtbaglnffgbnekaaN0
import Derived.Test.YtbaglnffgbnekaaN1
import Derived.Test.YtbaglnffgbnekaaN2
import Derived.Test.YtbaglnffgbnekaaN3
import Derived.Test.YtbaglnffgbnekaaN4
