/- All of the contracts of this seat's laws. -/
import Derived.Test.YtekgeapohenheaaGreatLB
import Derived.Test.YtekgeapohenheaaGreatAERow
