/- The computed cells of the row. No condition. -/
import Derived.Test.YtfokdfakbobemaaGreatDoorCellC
import Derived.Test.YtfokdfakbobemaaGreatDoorCellG
import Derived.Test.YtfokdfakbobemaaGreatDoorCellH
import Derived.Test.YtfokdfakbobemaaGreatDoorCellI
import Derived.Test.YtfokdfakbobemaaGreatDoorCellJ
import Derived.Test.YtfokdfakbobemaaGreatDoorCellK
import Derived.Test.YtfokdfakbobemaaGreatDoorRows
import Derived.JoinedCond
namespace Go.Proofs.YtfokdfakbobemaaGreatDoor
open Go
set_option maxHeartbeats 0
set_option maxRecDepth 1000000
theorem cardB : joinedFacts Tryz.prog 3 Tryz.f3 (OpenSpec.ofChange Rows.deskKnownSpec).bare Rows.deskKnownRow = true := by
  unfold joinedFacts
  rw [Tryz.laidOut, Tryz.mapsOK, Tryz.inPlace, Tryz.unfollowed, Tryz.recurses, Tryz.varsNamed, Tryz.stopsHeard, Tryz.mayEnter, Tryz.plainKeys]
  kernel_rfl
end Go.Proofs.YtfokdfakbobemaaGreatDoor
