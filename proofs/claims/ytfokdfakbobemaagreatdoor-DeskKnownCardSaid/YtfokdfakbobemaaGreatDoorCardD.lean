/- The program's own looks. No condition. -/
import Derived.Test.YtfokdfakbobemaaGreatDoorProg
import Derived.KernelRfl
import Derived.SevenTiedAt
namespace Go.Proofs.YtfokdfakbobemaaGreatDoor
open Go
set_option maxHeartbeats 0
set_option maxRecDepth 100000
theorem cardD : true = Tryz.prog.looks [] := by kernel_rfl
end Go.Proofs.YtfokdfakbobemaaGreatDoor
