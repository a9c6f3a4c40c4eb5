/- All normal forms. -/
import Derived.Test.YtcohengppaighaaGreatDoorN0
import Derived.Test.YtcohengppaighaaGreatDoorN1
import Derived.Test.YtcohengppaighaaGreatDoorN2
import Derived.Test.YtcohengppaighaaGreatDoorN3
import Derived.Test.YtcohengppaighaaGreatDoorN4
import Derived.Test.YtcohengppaighaaGreatDoorN5
import Derived.Test.YtcohengppaighaaGreatDoorN6
