/- What the law's closure names: functions answered in place, variables. No condition. -/
import Derived.Test.YtfokdfakbobemaaGreatDoorCellB
import Derived.Test.YtfokdfakbobemaaGreatDoorNames
namespace Go.Proofs
open Go Go.Mu
set_option maxHeartbeats 0
set_option maxRecDepth 1000000
theorem Tryz.placeRun : wordsK (funcsW Tryz.prog) placeK Tryz.clos ["internal/bytealg.Compare", "slices.overlaps[muniment/lock.ask]", "slices.overlaps[[]byte]", "math.Float64frombits", "math.Float64bits", "internal/bytealg.CountString", "internal/bytealg.IndexByteString", "internal/bytealg.IndexString", "math.archFloor", "math.archTrunc", "internal/bytealg.abigen_runtime_cmpstring"] = true := by kernel_rfl
theorem Tryz.inPlace : Tryz.prog.inPlace 3 = ["internal/bytealg.Compare", "slices.overlaps[muniment/lock.ask]", "slices.overlaps[[]byte]", "math.Float64frombits", "math.Float64bits", "internal/bytealg.CountString", "internal/bytealg.IndexByteString", "internal/bytealg.IndexString", "math.archFloor", "math.archTrunc", "internal/bytealg.abigen_runtime_cmpstring"] := inPlace_of Tryz.namesOK Tryz.closure Tryz.placeRun
theorem Tryz.readsRun : wordsK (funcsW Tryz.prog) readK Tryz.clos ["internal/bytealg.MaxLen"] = true := by kernel_rfl
theorem Tryz.globRun : glK (treeW Tryz.tags) Tryz.clos [0, 1, 0, 1, 0, 1, 2, 2, 2] = true := by kernel_rfl
theorem Tryz.namedRun : ((([0, 1, 0, 1, 0, 1, 2, 2, 2] : List Nat).eraseDups.filterMap fun g => (Tryz.prog.globals[g]?).map (·.name)) ++ ["internal/bytealg.MaxLen"]).eraseDups = ["unicode/utf8.first", "unicode/utf8.acceptRanges", "internal/bytealg.MaxLen"] := by kernel_rfl
theorem Tryz.varsNamed : Tryz.prog.varsNamed 3 = ["unicode/utf8.first", "unicode/utf8.acceptRanges", "internal/bytealg.MaxLen"] := (varsNamed_of Tryz.tagsOK Tryz.closure Tryz.globRun Tryz.readsRun).trans Tryz.namedRun
end Go.Proofs
