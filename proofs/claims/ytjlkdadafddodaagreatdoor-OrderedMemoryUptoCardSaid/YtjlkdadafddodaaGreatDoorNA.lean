/- All normal forms. -/
import Derived.Test.YtjlkdadafddodaaGreatDoorN0
import Derived.Test.YtjlkdadafddodaaGreatDoorN1
import Derived.Test.YtjlkdadafddodaaGreatDoorN2
import Derived.Test.YtjlkdadafddodaaGreatDoorN3
