/- The kinds of the keys of the program's maps. No condition. -/
import Derived.Test.YtfokdfakbobemaaGreatDoorRows
import Derived.KernelRfl
import Derived.JoinedCond
namespace Go.Proofs
open Go
set_option maxHeartbeats 0
set_option maxRecDepth 1000000
theorem Tryz.plainKeys : (YtfokdfakbobemaaGreatDoor.Rows.deskKnownRow.plainKeys == Tryz.prog.plainKeys) = true := by kernel_rfl
end Go.Proofs
