import Derived.Test.YtdbkmjahbgcjbaaGreatDoorKrA
set_option linter.all false
namespace Kr
set_option maxRecDepth 100000
theorem chk3 : chkR 711 80 = true := by decide +kernel
end Kr
