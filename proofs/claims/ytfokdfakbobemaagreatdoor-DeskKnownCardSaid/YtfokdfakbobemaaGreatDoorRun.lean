/- The law comes to true, in whatever world. No condition. -/
import Derived.Test.YtfokdfakbobemaaGreatDoorAwake
namespace Go.Proofs
open Go.Mu
set_option maxHeartbeats 0 in
theorem Tryz.lawRun : (cdC (callsK Tryz.prog Tryz.HK1 100000 100)) 3 [] .e 0 (fun v _ _ => isTrue v) (fun _ _ _ => false) = true := by kernel_rfl
set_option maxRecDepth 1000000 in
theorem Tryz.lawTrue : TrueIn Tryz.prog 3 := true_of_run Tryz.namesOK Tryz.mixed Tryz.okP (fun base => Tryz.hooksOK1 (Tryz.hooksOK Tryz.namesOK Tryz.mixed Tryz.moreTy base) Tryz.awakeTrue) Tryz.hooksRel1 (LF := 100000) (n := 100) Tryz.lawRun
end Go.Proofs
