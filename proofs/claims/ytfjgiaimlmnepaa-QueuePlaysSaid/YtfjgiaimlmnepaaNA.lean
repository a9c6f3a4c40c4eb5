/- All normal forms. -/
import Derived.Test.YtfjgiaimlmnepaaN0
import Derived.Test.YtfjgiaimlmnepaaN1
import Derived.Test.YtfjgiaimlmnepaaN2
