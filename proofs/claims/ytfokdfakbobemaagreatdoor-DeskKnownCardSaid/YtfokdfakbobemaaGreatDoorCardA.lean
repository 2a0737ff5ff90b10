/- The law is this function. No condition. -/
import Derived.Test.YtfokdfakbobemaaGreatDoorProg
import Derived.KernelRfl
import Derived.SevenTiedAt
namespace Go.Proofs.YtfokdfakbobemaaGreatDoor
open Go
set_option maxHeartbeats 0
set_option maxRecDepth 100000
theorem cardA : Tryz.prog.funcNamed "muniment/munimentlaw20.DeskKnown" = some 3 := by kernel_rfl
theorem own : ownKnob Tryz.prog.godebug = none := by kernel_rfl
theorem noInit : Tryz.prog.inits.idxOf? 3 = none := by kernel_rfl
theorem hasBody : (Tryz.f3.body.isSome) = true := by kernel_rfl
end Go.Proofs.YtfokdfakbobemaaGreatDoor
