/- The program's maps are of its types. No condition. -/
import Derived.Test.YtfokdfakbobemaaGreatDoorProg
import Derived.KernelRfl
import GoSem.ClaimJoined
namespace Go.Proofs
open Go
set_option maxHeartbeats 0
set_option maxRecDepth 1000000
theorem Tryz.mapsOK : mapsRowed Tryz.prog = true := by kernel_rfl
end Go.Proofs
