/- Closed facts of the program: the kinds of what is listed, where it is laid, what it reads as. No condition. -/
import Derived.Test.YtfokdfakbobemaaGreatDoorRows
import Derived.LaidByTextLater
import Derived.SevenTiedAt
import Derived.KernelRfl
namespace Go.Proofs.YtfokdfakbobemaaGreatDoor
open Go
set_option maxHeartbeats 0
theorem tieE1 : (([("unicode/utf8.acceptRanges", Rows.laid_unicode_utf8_acceptRanges)] : List (String × DataW Unit)).map fun x => Tryz.prog.kindOfLater x.1) = ([.data] : List LaidKind).map some := by kernel_rfl
theorem tieE2 : (Tryz.prog.funcNamed "gosem.cut.vars").isSome = true := by kernel_rfl
theorem tieE3 : varsNamedLaterB Tryz.prog (varsId Tryz.prog) [("unicode/utf8.acceptRanges", Rows.laid_unicode_utf8_acceptRanges)] = true := by kernel_rfl
end Go.Proofs.YtfokdfakbobemaaGreatDoor
