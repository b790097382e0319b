/- Part of the proof. -/
import Derived.Test.YtfhilbdpejljdaaGreatDoorW1
set_option linter.all false
namespace Go.Am
theorem awake_ret : Ret Fk 7 [] (.bool true) := runsTo_sound mok21 (n := 1000) (by kernel_rfl)
end Go.Am
