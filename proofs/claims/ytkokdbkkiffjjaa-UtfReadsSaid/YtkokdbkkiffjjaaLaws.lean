/- All of the contracts of this seat's laws. -/
import Derived.Test.YtkokdbkkiffjjaaL10
import Derived.Test.YtkokdbkkiffjjaaAERow
