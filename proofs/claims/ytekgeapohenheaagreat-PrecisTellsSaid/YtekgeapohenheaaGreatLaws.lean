/- All of the contracts of this seat's laws. -/
import Derived.Test.YtekgeapohenheaaGreatSL
import Derived.Test.YtekgeapohenheaaGreatAERow
