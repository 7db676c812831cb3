/- All of the contracts of this seat's laws. -/
import Derived.Test.YtkokdbkkiffjjaaL9
import Derived.Test.YtkokdbkkiffjjaaAERow
