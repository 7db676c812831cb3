/- All of the contracts of this seat's laws. -/
import Derived.Test.YtheknccdihbgjaaK6
import Derived.Test.YtheknccdihbgjaaAERow
