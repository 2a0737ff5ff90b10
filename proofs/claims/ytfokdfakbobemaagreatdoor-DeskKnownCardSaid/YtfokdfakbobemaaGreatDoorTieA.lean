/- A closed fact of the program: its head bears the word of the later looks. No condition. -/
import Derived.Test.YtfokdfakbobemaaGreatDoorProg
import Derived.LaidByTextLater
import Derived.SevenTiedAt
import Derived.KernelRfl
namespace Go.Proofs.YtfokdfakbobemaaGreatDoor
open Go
set_option maxHeartbeats 0
theorem tieA : Tryz.prog.worded (varsWordLater true) = true := by kernel_rfl
end Go.Proofs.YtfokdfakbobemaaGreatDoor
