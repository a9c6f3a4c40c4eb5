/- All normal forms. -/
import Derived.Test.YtpipenkaaodlgaaGreatDoorN0
import Derived.Test.YtpipenkaaodlgaaGreatDoorN1
import Derived.Test.YtpipenkaaodlgaaGreatDoorN2
import Derived.Test.YtpipenkaaodlgaaGreatDoorN3
