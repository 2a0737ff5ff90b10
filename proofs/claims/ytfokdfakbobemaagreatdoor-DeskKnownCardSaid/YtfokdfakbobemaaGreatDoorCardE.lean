/- The cells of the card. No condition. -/
import Derived.Test.YtfokdfakbobemaaGreatDoorRows
import Derived.KernelRfl
import Derived.SevenTiedAt
namespace Go.Proofs.YtfokdfakbobemaaGreatDoor
open Go
set_option maxHeartbeats 0
set_option maxRecDepth 100000
theorem cardE1 : Rows.deskKnownRow.wfByText (OpenSpec.ofChange Rows.deskKnownSpec) = true := by kernel_rfl
theorem cardE2 : Tryz.prog.mainIs = some (true, "ed467649357945f50c588122c162c19f3cdc5e62a81c2ab289997396035fa2cb".toList) := by kernel_rfl
end Go.Proofs.YtfokdfakbobemaaGreatDoor
