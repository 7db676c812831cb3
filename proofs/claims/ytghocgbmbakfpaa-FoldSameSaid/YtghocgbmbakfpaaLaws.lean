/- All of the contracts of this seat's laws. -/
import Derived.Test.YtghocgbmbakfpaaSK
import Derived.Test.YtghocgbmbakfpaaAERow
