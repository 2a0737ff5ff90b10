/- awake comes to true, in whatever world. No condition. -/
import Derived.Test.YtfokdfakbobemaaGreatDoorOk
import Derived.Test.YtfokdfakbobemaaGreatDoorNames
namespace Go.Proofs
open Go.Mu
set_option maxHeartbeats 0 in
theorem Tryz.awakeRun : (cdC (callsK Tryz.prog Tryz.HK0 100000 100)) 5 [] .e 0 (fun v _ _ => isTrue v) (fun _ _ _ => false) = true := by kernel_rfl
set_option maxRecDepth 1000000 in
theorem Tryz.awakeTrue : TrueIn Tryz.prog 5 := true_of_run Tryz.namesOK Tryz.mixed Tryz.okP (Tryz.hooksOK Tryz.namesOK Tryz.mixed Tryz.moreTy) Tryz.hooksRel (LF := 100000) (n := 100) Tryz.awakeRun
end Go.Proofs
