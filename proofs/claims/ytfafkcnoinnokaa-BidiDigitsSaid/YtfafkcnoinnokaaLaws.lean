/- All of the contracts of this seat's laws. -/
import Derived.Test.YtfafkcnoinnokaaXH
import Derived.Test.YtfafkcnoinnokaaAERow
