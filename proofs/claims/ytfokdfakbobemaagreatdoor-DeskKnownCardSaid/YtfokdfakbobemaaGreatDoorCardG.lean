/- A start at which the row's own condition is met. No condition. -/
import Derived.Test.YtfokdfakbobemaaGreatDoorRows
import Derived.KernelRfl
import Derived.LaidMore
import Derived.ProofKit
import Derived.Deep.DeepHandedRow
namespace Go.Proofs.YtfokdfakbobemaaGreatDoor
open Go
set_option maxHeartbeats 0
set_option maxRecDepth 100000
mutual
def flatD : DataW Unit → List Value
  | .lit (.int k n) => [.int k n]
  | .lit (.bool b) => [.bool b]
  | .agg l => flatDs l
  | _ => []
def flatDs : List (DataW Unit) → List Value
  | [] => []
  | d :: l => flatD d ++ flatDs l
end
def putCells (cs : List Value) : Obj → Obj
  | .cells _ t frozen => .cells cs.toArray t frozen
  | o => o
/-- A world for the witness: the settled one, the listed variables holding what is listed. -/
noncomputable def laidWorld (os : Os) : World :=
  { World.holding Tryz.prog os ⟨#[], #[], []⟩ with heap := (((World.holding Tryz.prog os ⟨#[], #[], []⟩).heap.modify 0 (putCells (flatD Rows.laid_unicode_utf8_first))).modify 1 (putCells (flatD Rows.laid_unicode_utf8_acceptRanges))) }
theorem laid_met (os : Os) : laidMet Tryz.prog Rows.deskKnownRow.laid ((laidWorld os).forCall (fun _ _ => 0) ⟨#[], #[], []⟩).memory :=
  laidMet_of_run' 8 (by kernel_rfl) (by kernel_rfl)
theorem reads (os : Os) {H : Type} (enc : TypeId × Value → H) : DataW.whole enc Tryz.prog ((laidWorld os).forCall (fun _ _ => 0) ⟨#[], #[], []⟩).memory Tryz.f3.params.toList Rows.deskKnownSpec.vars false (#[] : Array Value).toList 8 = some ([], [], []) := by kernel_rfl
end Go.Proofs.YtfokdfakbobemaaGreatDoor
