/- All of the contracts of this seat's laws. -/
import Derived.Test.YthnhjaofelhbdaaXJ
import Derived.Test.YthnhjaofelhbdaaAERow
