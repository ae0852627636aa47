import Derived.Test.YtdbkmjahbgcjbaaGreatDoorKrA
set_option linter.all false
namespace Kr
set_option maxRecDepth 100000
theorem chk2 : chkR 501 105 = true := by decide +kernel
end Kr
