/- No function of the program bears the name that the model treats apart. No condition. -/
import Derived.Test.YtfokdfakbobemaaGreatDoorTab
namespace Go.Proofs
open Go.Mu
set_option maxHeartbeats 0 in
theorem Tryz.namesAll : (Tryz.prog.funcs.all fun fn => !(fn.name == "runtime.NumGoroutine")) = true := by kernel_rfl
theorem Tryz.namesOK : NamesOK Tryz.prog := by
  intro f fn h
  have h1 := Tryz.namesAll
  rw [Array.all_eq_true_iff_forall_mem] at h1
  have := h1 fn (Array.mem_of_getElem? h)
  simpa using this
theorem Tryz.mixed : Tryz.prog.follows .mixedOrders = true := by kernel_rfl
theorem Tryz.moreTy : MoreTy Tryz.prog := ⟨by kernel_rfl, by kernel_rfl, by kernel_rfl, by kernel_rfl⟩
end Go.Proofs
