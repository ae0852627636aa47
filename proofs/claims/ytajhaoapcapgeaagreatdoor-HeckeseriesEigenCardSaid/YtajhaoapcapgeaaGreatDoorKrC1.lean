/- The two symbols agree, odd numbers from 1 on; no condition. -/
import Derived.Test.YtajhaoapcapgeaaGreatDoorKrA
set_option linter.all false
namespace Kr
set_option maxRecDepth 100000
theorem chk1 : chkR 1 250 = true := by decide +kernel
end Kr
