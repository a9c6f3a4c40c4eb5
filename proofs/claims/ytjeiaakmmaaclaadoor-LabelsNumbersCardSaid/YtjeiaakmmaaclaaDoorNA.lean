/- All normal forms. -/
import Derived.Test.YtjeiaakmmaaclaaDoorN0
