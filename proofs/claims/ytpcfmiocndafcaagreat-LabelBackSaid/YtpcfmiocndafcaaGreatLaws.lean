/- All of the contracts of this seat's laws. -/
import Derived.Test.YtpcfmiocndafcaaGreatLD
import Derived.Test.YtpcfmiocndafcaaGreatAERow
