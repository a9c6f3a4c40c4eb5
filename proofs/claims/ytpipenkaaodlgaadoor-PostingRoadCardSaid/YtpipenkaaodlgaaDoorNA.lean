/- All normal forms. -/
import Derived.Test.YtpipenkaaodlgaaDoorN0
import Derived.Test.YtpipenkaaodlgaaDoorN1
import Derived.Test.YtpipenkaaodlgaaDoorN2
import Derived.Test.YtpipenkaaodlgaaDoorN5
