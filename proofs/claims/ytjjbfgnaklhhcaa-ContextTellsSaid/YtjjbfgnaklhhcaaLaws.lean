/- All of the contracts of this seat's laws. -/
import Derived.Test.YtjjbfgnaklhhcaaXF
import Derived.Test.YtjjbfgnaklhhcaaAERow
