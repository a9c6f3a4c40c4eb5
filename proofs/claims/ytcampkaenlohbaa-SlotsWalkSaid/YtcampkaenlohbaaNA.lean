/- All normal forms. -/
import Derived.Test.YtcampkaenlohbaaN0
import Derived.Test.YtcampkaenlohbaaN1
import Derived.Test.YtcampkaenlohbaaN2
import Derived.Test.YtcampkaenlohbaaN3
import Derived.Test.YtcampkaenlohbaaN4
import Derived.Test.YtcampkaenlohbaaN5
import Derived.Test.YtcampkaenlohbaaN6
import Derived.Test.YtcampkaenlohbaaN7
import Derived.Test.YtcampkaenlohbaaN8
import Derived.Test.YtcampkaenlohbaaN9
