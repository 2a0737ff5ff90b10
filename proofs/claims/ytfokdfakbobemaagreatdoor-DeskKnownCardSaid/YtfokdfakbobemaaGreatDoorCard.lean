/- muniment/munimentlaw20.DeskKnown returns true, in whatever world, and leaves what was there as it was: the tied card of the law. Beside the given row's own: No condition. -/
import Derived.Test.YtfokdfakbobemaaGreatDoorCards
import Derived.Test.YtfokdfakbobemaaGreatDoorTieZ
import Derived.Test.YtfokdfakbobemaaGreatDoorCardA
import Derived.Test.YtfokdfakbobemaaGreatDoorCardB
import Derived.Test.YtfokdfakbobemaaGreatDoorCardC
import Derived.Test.YtfokdfakbobemaaGreatDoorCardD
import Derived.Test.YtfokdfakbobemaaGreatDoorCardE
import Derived.Test.YtfokdfakbobemaaGreatDoorCardF
import Derived.Test.YtfokdfakbobemaaGreatDoorCardG
import Derived.Test.YtfokdfakbobemaaGreatDoorCardH
import Derived.Test.YtfokdfakbobemaaGreatDoorCardI
import Derived.Deep.DeepHandedRow
import Derived.SevenTiedAt
namespace Go.Proofs.YtfokdfakbobemaaGreatDoor
open Go
set_option maxHeartbeats 0
set_option maxRecDepth 100000
open Go.ChangeShapes Go.WideShapes Go.ChangeAt Go.RowKit
theorem lifted (os : Os) (started : os.Started) (H : Type) (enc : TypeId × Value → H) (F : Stop.Interp) :
    ReturnsInHanded {} Tryz.checked os 3 .any ((OpenSpec.ofChange Rows.deskKnownSpec).preRow enc Tryz.prog Tryz.f3 Rows.deskKnownRow.domain false Rows.deskKnownRow.laid) (((OpenSpec.ofChange Rows.deskKnownSpec).at F).post enc Tryz.prog Tryz.f3 false true false false) := by
  refine returnsInHanded_of_row (C := Tryz.checked) (s := OpenSpec.ofChange Rows.deskKnownSpec) own started noInit Tryz.func3
    (witness_row_at (enc := enc) (C := Tryz.checked) false (laidWorld os) #[] rfl (cardH1 os) (cardH2 os) (cardH3 os)
      (OpenSpec.preRow_of_cond 8 (reads os enc) (by kernel_rfl) (fun k hk => by cases hk) (by kernel_rfl) (laid_met os))) ?_
  intro W base args ds gs before hval hW _ _ _ hL _ _
  exact contract H enc W args ds gs before hW

theorem said : Rows.DeskKnownSaid :=
  OpenClaim.holds_of_cond 3 Tryz.f3 rfl rfl rfl rfl rfl rfl rfl ⟨rfl, rfl, rfl, rfl, rfl⟩ rfl rfl rfl rfl rfl cardA Tryz.func3 cardB cardC1 cardC2
    (fun os started H enc _ F => by rw [OpenClaim.pre_eq_preRow]; exact lifted os started H enc F)

/-- No parameter wants a stand-in; the program's own looks are as the card says. -/
theorem plain (f : FuncId) (fn : Func) (hf : Tryz.pinned.checked.prog.funcNamed "muniment/munimentlaw20.DeskKnown" = some f) (hfn : Tryz.pinned.checked.prog.funcs[f]? = some fn) :
    true = Tryz.pinned.checked.prog.looks [] ∧ ∀ (j : Nat) t, fn.params[j]? = some t → Tryz.pinned.checked.prog.wantsStandIn t = false := by
  obtain rfl : f = 3 := Option.some.inj (cardA.symm.trans hf) |>.symm
  obtain rfl : fn = Tryz.f3 := (Option.some.inj (Tryz.func3.symm.trans hfn)).symm
  refine ⟨cardD, fun j t ht => ?_⟩
  rw [Tryz.params3] at ht
  simp at ht

/-- THE CARD. -/
theorem card : Rows.DeskKnownCardSaid :=
  Claim7.holds_tied_plain_at .later [] _ _ _ _ said (fun _ h => by cases h) cardE1 (fun _ h => by cases h) deskKnown_row_tie rfl ⟨rfl, rfl⟩ cardE2 rfl plain cardF
#print axioms card
end Go.Proofs.YtfokdfakbobemaaGreatDoor
