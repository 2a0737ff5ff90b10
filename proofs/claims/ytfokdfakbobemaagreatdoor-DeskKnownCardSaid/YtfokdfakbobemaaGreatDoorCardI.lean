/- What the law's result is read as. No condition. -/
import Derived.Test.YtfokdfakbobemaaGreatDoorProg
import Derived.Test.YtfokdfakbobemaaGreatDoorRows
import Derived.KernelRfl
import Derived.ProofKit
import Derived.OpenShut
import Derived.Below
import Derived.Test.YtfokdfakbobemaaGreatDoorRun
namespace Go.Proofs.YtfokdfakbobemaaGreatDoor
open Go
set_option maxHeartbeats 0
set_option maxRecDepth 100000
open Go.ChangeShapes Go.WideShapes Go.ChangeAt Go.RowKit
theorem lawBody : Go.Mu.hasBody Tryz.prog 3 = true := by kernel_rfl
theorem walk (w : World) : Calls Tryz.prog 3 #[] w fun e w' => e = .returned (.bool true) ∧ RowKit.Below w.heap.size w w' :=
  (Go.Mu.does_enter (P := Tryz.prog) (f := 3) lawBody (Tryz.lawTrue w)).2

theorem contract (H : Type) (enc : TypeId × Value → H) (W : World) (args : Array Value) (ds gs : List (DataW H)) (before : List MemPlace)
    (hW : DataW.Whole enc Tryz.prog Tryz.f3.params.toList Rows.deskKnownSpec.vars false W args.toList ds gs before) :
    Calls Tryz.prog 3 args W fun e W' => ∃ v, e = .returned v ∧ Rows.deskKnownSpec.post enc Tryz.prog Tryz.f3 false true false false W args v W' := by
  have hW' := hW
  obtain ⟨p, q, hA0, hV, rfl, hfz, hnd⟩ := hW
  have hA : DataW.TrodAll enc Tryz.prog W 0 (fun _ => true) true Tryz.f3.params.toList args.toList ds p := hA0
  rw [Tryz.params3] at hA
  have ha : args.toList = [] ∧ ds = [] ∧ p = [] := by
    generalize args.toList = l at hA
    obtain ⟨h1, h2, h3⟩ := trodAll_nil hA
    exact ⟨h1, h2, h3⟩
  obtain ⟨ha, rfl, rfl⟩ := ha
  obtain rfl : args = #[] := by cases args; simp_all
  obtain ⟨rfl, rfl⟩ := trodVars_none hV
  refine (walk W).mono fun e W' ⟨he, hb⟩ => ?_
  subst he
  exact ⟨_, rfl, [], [], _, [], [], [], hW', trodAll_cons_mk (shut_bool Tryz.underlying4 _) trodAll_mk0, by rw [Tryz.params3]; exact trodAll_mk0, rfl, hb.frame _, fun h => by cases h⟩
end Go.Proofs.YtfokdfakbobemaaGreatDoor
