/- All of the contracts of this seat's laws. -/
import Derived.Test.YtpooocpgpjimgaaDoorRC
import Derived.Test.YtpooocpgpjimgaaDoorAERow
import Derived.Test.YtpooocpgpjimgaaDoorAEDoor
