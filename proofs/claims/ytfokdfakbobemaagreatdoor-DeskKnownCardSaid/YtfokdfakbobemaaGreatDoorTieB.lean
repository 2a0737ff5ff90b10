/- A closed fact of the program: its head does not bear the other word. No condition. -/
import Derived.Test.YtfokdfakbobemaaGreatDoorProg
import Derived.LaidByTextLater
import Derived.SevenTiedAt
import Derived.KernelRfl
namespace Go.Proofs.YtfokdfakbobemaaGreatDoor
open Go
set_option maxHeartbeats 0
theorem tieB : Tryz.prog.worded (varsWordLater false) = false := by kernel_rfl
end Go.Proofs.YtfokdfakbobemaaGreatDoor
