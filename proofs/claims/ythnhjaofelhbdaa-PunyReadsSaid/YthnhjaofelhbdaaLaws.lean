/- All of the contracts of this seat's laws. -/
import Derived.Test.YthnhjaofelhbdaaXK
import Derived.Test.YthnhjaofelhbdaaAERow
