/- The law starts no goroutine. No condition. -/
import Derived.Test.YtfokdfakbobemaaGreatDoorCellB
import Derived.Test.YtfokdfakbobemaaGreatDoorCardA
import Derived.Test.YtfokdfakbobemaaGreatDoorRows
import Derived.SevenTiedAt
namespace Go.Proofs.YtfokdfakbobemaaGreatDoor
open Go
set_option maxRecDepth 1000000
theorem cardF0 : Tryz.prog.goesFrom "muniment/munimentlaw20.DeskKnown" = false := by
  unfold Program.goesFrom
  rw [cardA, Option.any_some]
  exact Tryz.goesNot
theorem orFalse (a b : Bool) (ha : a = false) (hb : b = false) : false = (a || b) := by subst ha; subst hb; rfl
theorem cardF1 : Rows.deskKnownRow.func = "muniment/munimentlaw20.DeskKnown" := rfl
theorem cardF2 : Rows.deskKnownRow.start = .entering := rfl
theorem cardF : false = Rows.deskKnownRow.goesBy Tryz.prog := by
  unfold OpenClaim.goesBy Program.goesAt
  rw [cardF1, cardF2]
  exact orFalse _ _ cardF0 rfl
end Go.Proofs.YtfokdfakbobemaaGreatDoor
