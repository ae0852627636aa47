import Derived.Test.YtdbkmjahbgcjbaaGreatDoorKrA
set_option linter.all false
namespace Kr
set_option maxRecDepth 100000
theorem chk4 : chkR 871 65 = true := by decide +kernel
end Kr
