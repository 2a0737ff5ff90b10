/- The law is no instance of generic code and no wrapper. No condition. -/
import Derived.Test.YtfokdfakbobemaaGreatDoorRows
import Derived.KernelRfl
import Derived.JoinedCond
namespace Go.Proofs.YtfokdfakbobemaaGreatDoor
open Go
set_option maxHeartbeats 0
set_option maxRecDepth 100000
theorem cardC1 : Tryz.f3.isInstance Tryz.prog Rows.deskKnownRow.origin Rows.deskKnownRow.targs := of_decide_eq_true (by kernel_rfl)
theorem cardC2 : Tryz.f3.isWrapper Tryz.prog Rows.deskKnownRow.wrapper Rows.deskKnownRow.mainSum := by
  unfold Func.isWrapper
  first
    | (rw [if_pos (by decide +kernel)]; kernel_rfl)
    | (rw [if_neg (by decide +kernel)]; exact ⟨rfl, rfl⟩)
end Go.Proofs.YtfokdfakbobemaaGreatDoor
