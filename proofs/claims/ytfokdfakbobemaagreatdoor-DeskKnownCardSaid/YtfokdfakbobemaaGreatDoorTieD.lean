/- A closed fact of the program: its variables are laid in so many steps. No condition. -/
import Derived.Test.YtfokdfakbobemaaGreatDoorProg
import Derived.LaidByTextLater
import Derived.SevenTiedAt
import Derived.KernelRfl
namespace Go.Proofs.YtfokdfakbobemaaGreatDoor
open Go
set_option maxHeartbeats 0
theorem tieD (os : Os) (tape : Nat → Question → Nat) : varsDone Tryz.prog 400 (varsId Tryz.prog) os tape = true := by kernel_rfl
end Go.Proofs.YtfokdfakbobemaaGreatDoor
