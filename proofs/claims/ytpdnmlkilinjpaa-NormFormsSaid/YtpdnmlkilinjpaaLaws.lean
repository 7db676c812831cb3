/- All of the contracts of this seat's laws. -/
import Derived.Test.YtpdnmlkilinjpaaSL
import Derived.Test.YtpdnmlkilinjpaaAERow
