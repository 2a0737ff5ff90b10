/- A closed fact of the program: its head bears the root word. No condition. -/
import Derived.Test.YtfokdfakbobemaaGreatDoorProg
import Derived.LaidByTextLater
import Derived.SevenTiedAt
import Derived.KernelRfl
namespace Go.Proofs.YtfokdfakbobemaaGreatDoor
open Go
set_option maxHeartbeats 0
theorem tieC : Tryz.prog.worded rootWordLater = true := by kernel_rfl
end Go.Proofs.YtfokdfakbobemaaGreatDoor
