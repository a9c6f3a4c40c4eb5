/- All normal forms. -/
import Derived.Test.YtjlkdadafddodaaN0
import Derived.Test.YtjlkdadafddodaaN1
import Derived.Test.YtjlkdadafddodaaN2
import Derived.Test.YtjlkdadafddodaaN3
import Derived.Test.YtjlkdadafddodaaN4
import Derived.Test.YtjlkdadafddodaaN5
