/- Where the program stops is heard. No condition. -/
import Derived.Test.YtfokdfakbobemaaGreatDoorProg
import Derived.KernelRfl
import Derived.JoinedCond
namespace Go.Proofs
open Go
set_option maxHeartbeats 0
set_option maxRecDepth 1000000
theorem Tryz.stopsHeard : Tryz.prog.stopsHeard = true := by kernel_rfl
end Go.Proofs
