/- All of the contracts of this seat's laws. -/
import Derived.Test.YtoppecphhiiiiaaGreatDoorGB
import Derived.Test.YtoppecphhiiiiaaGreatDoorAERow
import Derived.Test.YtoppecphhiiiiaaGreatDoorAELoop
import Derived.Test.YtoppecphhiiiiaaGreatDoorAELoop2
import Derived.Test.YtoppecphhiiiiaaGreatDoorAEDoor
