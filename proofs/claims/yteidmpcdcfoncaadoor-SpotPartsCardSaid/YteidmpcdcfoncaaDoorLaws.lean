/- All of the contracts of this seat's laws. -/
import Derived.Test.YteidmpcdcfoncaaDoorQC
import Derived.Test.YteidmpcdcfoncaaDoorAERow
import Derived.Test.YteidmpcdcfoncaaDoorAEDoor
