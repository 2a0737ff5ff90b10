/- The tie of the listed variables to the program, out of its closed facts, and each row's tie. No condition. -/
import Derived.Test.YtfokdfakbobemaaGreatDoorTieA
import Derived.Test.YtfokdfakbobemaaGreatDoorTieB
import Derived.Test.YtfokdfakbobemaaGreatDoorTieC
import Derived.Test.YtfokdfakbobemaaGreatDoorTieD
import Derived.Test.YtfokdfakbobemaaGreatDoorTieE
import Derived.Test.YtfokdfakbobemaaGreatDoorTieF
import Derived.Test.YtfokdfakbobemaaGreatDoorTieG
import Derived.Test.YtfokdfakbobemaaGreatDoorRows
import Derived.LaidByTextLater
import Derived.SevenTiedAt
namespace Go.Proofs.YtfokdfakbobemaaGreatDoor
open Go
theorem pin_laid_unicode_utf8_first : Tryz.pinned.checked.prog.pinnedFits "unicode/utf8.first" = true := by kernel_rfl
theorem noOwnUnsafe : Tryz.pinned.checked.prog.headLifts.contains "ownunsafe" = false := by kernel_rfl
theorem fits1 : Tryz.pinned.checked.prog.listedFits [("unicode/utf8.first", Rows.laid_unicode_utf8_first), ("unicode/utf8.acceptRanges", Rows.laid_unicode_utf8_acceptRanges)] = true := by
  unfold Program.listedFits
  rw [noOwnUnsafe]
  kernel_rfl
theorem tie : Tryz.prog.laidByTextLater [("unicode/utf8.acceptRanges", Rows.laid_unicode_utf8_acceptRanges)] [.data] true :=
  Program.laidByTextLater_by_run 400 8 tieA tieB tieC tieE1 tieE2 tieE3 tieD tieF tieG
theorem deskKnown_row_tie : Rows.deskKnownRow.laidByTextAt .later Tryz.pinned [.pinned, .data] true :=
  OpenClaim.laidByTextAt_pinned rfl rfl tie rfl rfl rfl rfl (fun y hy _e => by
    simp only [Rows.deskKnownRow, List.zip_cons_cons, List.zip_nil_right, List.mem_cons, List.mem_nil_iff, or_false] at hy
    rcases hy with rfl | rfl
    · exact ⟨pin_laid_unicode_utf8_first, by kernel_rfl⟩
    · cases _e) fits1
theorem deskKnownUpto_row_tie : Rows.deskKnownUptoRow.laidByTextAt .later Tryz.pinned [.pinned, .data] true :=
  OpenClaim.laidByTextAt_pinned rfl rfl tie rfl rfl rfl rfl (fun y hy _e => by
    simp only [Rows.deskKnownUptoRow, List.zip_cons_cons, List.zip_nil_right, List.mem_cons, List.mem_nil_iff, or_false] at hy
    rcases hy with rfl | rfl
    · exact ⟨pin_laid_unicode_utf8_first, by kernel_rfl⟩
    · cases _e) fits1
end Go.Proofs.YtfokdfakbobemaaGreatDoor
