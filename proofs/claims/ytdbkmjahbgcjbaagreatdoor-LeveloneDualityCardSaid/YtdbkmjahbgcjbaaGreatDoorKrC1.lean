import Derived.Test.YtdbkmjahbgcjbaaGreatDoorKrA
set_option linter.all false
namespace Kr
set_option maxRecDepth 100000
theorem chk1 : chkR 1 250 = true := by decide +kernel
end Kr
