/- All of the contracts of this seat's laws. -/
import Derived.Test.YtekgeapohenheaaSL
import Derived.Test.YtekgeapohenheaaAERow
