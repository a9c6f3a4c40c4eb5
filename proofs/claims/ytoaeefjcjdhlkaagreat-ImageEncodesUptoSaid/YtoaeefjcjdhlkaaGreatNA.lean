/- All normal forms. -/
import Derived.Test.YtoaeefjcjdhlkaaGreatN0
import Derived.Test.YtoaeefjcjdhlkaaGreatN1
import Derived.Test.YtoaeefjcjdhlkaaGreatN2
import Derived.Test.YtoaeefjcjdhlkaaGreatN3
import Derived.Test.YtoaeefjcjdhlkaaGreatN4
import Derived.Test.YtoaeefjcjdhlkaaGreatN5
import Derived.Test.YtoaeefjcjdhlkaaGreatN6
