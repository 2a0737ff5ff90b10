/- That start is one of the program. No condition. -/
import Derived.Test.YtfokdfakbobemaaGreatDoorCardG
namespace Go.Proofs.YtfokdfakbobemaaGreatDoor
open Go
set_option maxHeartbeats 0
set_option maxRecDepth 100000
theorem cardH1 (os : Os) : World.variablesB Tryz.prog ((laidWorld os).forCall (fun _ _ => 0) ⟨#[], #[], []⟩) = true := by kernel_rfl
theorem cardH2 (os : Os) : (((laidWorld os).forCall (fun _ _ => 0) ⟨#[], #[], []⟩).heap.toList.drop Tryz.prog.globals.size).take ((begin Tryz.prog (fun _ _ => 0) default).world.heap.size - Tryz.prog.globals.size) =
      (begin Tryz.prog (fun _ _ => 0) default).world.heap.toList.drop Tryz.prog.globals.size := by kernel_rfl
theorem cardH3 (os : Os) : Input.okWideB Tryz.prog ((laidWorld os).forCall (fun _ _ => 0) ⟨#[], #[], []⟩) 3 ⟨#[], #[], []⟩ = true := by kernel_rfl
end Go.Proofs.YtfokdfakbobemaaGreatDoor
