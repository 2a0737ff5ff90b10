/- The program may be entered. No condition. -/
import Derived.Test.YtfokdfakbobemaaGreatDoorProg
import Derived.KernelRfl
import Derived.JoinedCond
namespace Go.Proofs
open Go
set_option maxHeartbeats 0
set_option maxRecDepth 1000000
theorem Tryz.mayEnter : Tryz.prog.mayEnter = true := by kernel_rfl
end Go.Proofs
