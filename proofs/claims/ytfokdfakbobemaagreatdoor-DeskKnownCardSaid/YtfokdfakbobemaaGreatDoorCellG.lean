/- The program's table of types is in order. No condition. -/
import Derived.Test.YtfokdfakbobemaaGreatDoorCellA
import Derived.Test.YtfokdfakbobemaaGreatDoorCellD
import Derived.Test.YtfokdfakbobemaaGreatDoorCellE
import Derived.Test.YtfokdfakbobemaaGreatDoorCellF
import Derived.KernelRfl
namespace Go.Proofs
open Go Go.Mu
set_option maxHeartbeats 0
set_option maxRecDepth 1000000
theorem Tryz.tsize : Tryz.prog.types.size = 780 := by kernel_rfl
theorem Tryz.rowsAll : (List.range Tryz.prog.types.size).all (rowFine Tryz.prog) = true := by
  rw [Tryz.tsize]
  exact rows_of [(0, 260), (260, 260), (520, 260)] (fun p hp => by
    simp only [List.mem_cons, List.mem_nil_iff, or_false] at hp
    rcases hp with rfl | rfl | rfl
    · exact Tryz.rowsD
    · exact Tryz.rowsE
    · exact Tryz.rowsF) fun i hi => by
      by_cases h1 : i < 260
      · exact ⟨(0, 260), by simp, by omega, by omega⟩
      · by_cases h2 : i < 520
        · exact ⟨(260, 260), by simp, by omega, by omega⟩
        · exact ⟨(520, 260), by simp, by omega, by omega⟩
theorem Tryz.laidG : Tryz.prog.globals.all (fun g => decide (g.type < Tryz.prog.types.size)) = true := by kernel_rfl
theorem Tryz.laidF : Tryz.prog.funcs.all (fun f => f.params.all fun t => decide (t < Tryz.prog.types.size)) = true := by kernel_rfl
theorem Tryz.laidOut : laidOutB Tryz.prog = true := by unfold laidOutB; rw [Tryz.rowsAll, Tryz.laidG, Tryz.laidF]; rfl
end Go.Proofs
