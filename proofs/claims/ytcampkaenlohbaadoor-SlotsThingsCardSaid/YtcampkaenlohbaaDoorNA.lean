/- All normal forms. -/
import Derived.Test.YtcampkaenlohbaaDoorN0
import Derived.Test.YtcampkaenlohbaaDoorN1
import Derived.Test.YtcampkaenlohbaaDoorN2
import Derived.Test.YtcampkaenlohbaaDoorN3
import Derived.Test.YtcampkaenlohbaaDoorN4
