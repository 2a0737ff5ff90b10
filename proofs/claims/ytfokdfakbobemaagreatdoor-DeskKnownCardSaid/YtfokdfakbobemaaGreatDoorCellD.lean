/- The table of types is in order: a third of it. No condition. -/
import Derived.Test.YtfokdfakbobemaaGreatDoorProg
import Derived.KernelRfl
import GoSem.ClaimDataLaid
namespace Go.Proofs
open Go
set_option maxHeartbeats 0
set_option maxRecDepth 1000000
theorem Tryz.rowsD : (List.range' 0 260).all (rowFine Tryz.prog) = true := by kernel_rfl
end Go.Proofs
