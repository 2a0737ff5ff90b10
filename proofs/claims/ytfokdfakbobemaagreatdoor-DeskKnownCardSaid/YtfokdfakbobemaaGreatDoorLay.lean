/- What slices.Sorted over maps.Keys comes to at this program: keys of the kinds int and string. No condition. -/
import Derived.Shelf.SlIterI.Nil
import Derived.Shelf.SlIterI.Sorted
import Derived.Shelf.SlIter.Nil
import Derived.Shelf.SlIter.Sorted
import Derived.Shelf.SortM.Plain
import Derived.Shelf.SortM.SortNone
import Derived.Ground.GgzProg
import Derived.Ground.SlgmProg
import Derived.Test.YtfokdfakbobemaaGreatDoorProg
import Derived.Test.YtfokdfakbobemaaGreatDoorMore
set_option autoImplicit true
set_option relaxedAutoImplicit true
set_option linter.unusedVariables false
set_option linter.unusedSimpArgs false
namespace Go.Proofs
open Go.Shelf
def Tryz.keysI0_ren : Go.Shelf.Ren := ⟨fun | 7 => 169 | 10 => 265 | n => n, fun | 23 => 113 | 26 => 3 | 3 => 28 | 28 => 298 | 0 => 0 | 27 => 297 | 33 => 42 | 4 => 4 | n => n, fun | n => n⟩
theorem Tryz.keysI0 : Go.Proofs.SlLaysZI.n7 Tryz.prog Tryz.keysI0_ren := {
  mixed := by kernel_rfl
  f7 := ⟨Tryz.f169.name, by decide, Tryz.func169.trans (congrArg some (by kernel_rfl))⟩
  f10 := ⟨Tryz.f265.name, by decide, Tryz.func265.trans (congrArg some (by kernel_rfl))⟩
  t0 := Tryz.underlying0
  a0 := Tryz.isAgg0
  z0 := Tryz.sizeOf0
  v0 := Tryz.zeroValue0
  t4 := Tryz.underlying4
  a4 := Tryz.isAgg4
  z4 := Tryz.sizeOf4
  v4 := Tryz.zeroValue4
  t23 := Tryz.underlying113
  a23 := Tryz.isAgg113
  z23 := Tryz.sizeOf113
  v23 := Tryz.zeroValue113
  t26 := Tryz.underlying3
  a26 := Tryz.isAgg3
  z26 := Tryz.sizeOf3
  v26 := Tryz.zeroValue3
  t27 := Tryz.underlying297
  a27 := Tryz.isAgg297
  z27 := Tryz.sizeOf297
  v27 := Tryz.zeroValue297
  t28 := Tryz.underlying298
  a28 := Tryz.isAgg298
  z28 := Tryz.sizeOf298
  v28 := Tryz.zeroValue298
  t33 := Tryz.underlying42
  a33 := Tryz.isAgg42
  z33 := Tryz.sizeOf42
  v33 := Tryz.zeroValue42 }
def Tryz.keysI1_ren : Go.Shelf.Ren := ⟨fun | 7 => 489 | 10 => 580 | n => n, fun | 23 => 282 | 26 => 3 | 3 => 3 | 28 => 298 | 0 => 0 | 27 => 297 | 33 => 42 | 4 => 4 | n => n, fun | n => n⟩
theorem Tryz.keysI1 : Go.Proofs.SlLaysZI.n7 Tryz.prog Tryz.keysI1_ren := {
  mixed := by kernel_rfl
  f7 := ⟨Tryz.f489.name, by decide, Tryz.func489.trans (congrArg some (by kernel_rfl))⟩
  f10 := ⟨Tryz.f580.name, by decide, Tryz.func580.trans (congrArg some (by kernel_rfl))⟩
  t0 := Tryz.underlying0
  a0 := Tryz.isAgg0
  z0 := Tryz.sizeOf0
  v0 := Tryz.zeroValue0
  t4 := Tryz.underlying4
  a4 := Tryz.isAgg4
  z4 := Tryz.sizeOf4
  v4 := Tryz.zeroValue4
  t23 := Tryz.underlying282
  a23 := Tryz.isAgg282
  z23 := Tryz.sizeOf282
  v23 := Tryz.zeroValue282
  t26 := Tryz.underlying3
  a26 := Tryz.isAgg3
  z26 := Tryz.sizeOf3
  v26 := Tryz.zeroValue3
  t27 := Tryz.underlying297
  a27 := Tryz.isAgg297
  z27 := Tryz.sizeOf297
  v27 := Tryz.zeroValue297
  t28 := Tryz.underlying298
  a28 := Tryz.isAgg298
  z28 := Tryz.sizeOf298
  v28 := Tryz.zeroValue298
  t33 := Tryz.underlying42
  a33 := Tryz.isAgg42
  z33 := Tryz.sizeOf42
  v33 := Tryz.zeroValue42 }
def Tryz.keysI2_ren : Go.Shelf.Ren := ⟨fun | 7 => 581 | 10 => 643 | n => n, fun | 23 => 283 | 26 => 3 | 3 => 429 | 28 => 298 | 0 => 0 | 27 => 297 | 33 => 42 | 4 => 4 | n => n, fun | n => n⟩
theorem Tryz.keysI2 : Go.Proofs.SlLaysZI.n7 Tryz.prog Tryz.keysI2_ren := {
  mixed := by kernel_rfl
  f7 := ⟨Tryz.f581.name, by decide, Tryz.func581.trans (congrArg some (by kernel_rfl))⟩
  f10 := ⟨Tryz.f643.name, by decide, Tryz.func643.trans (congrArg some (by kernel_rfl))⟩
  t0 := Tryz.underlying0
  a0 := Tryz.isAgg0
  z0 := Tryz.sizeOf0
  v0 := Tryz.zeroValue0
  t4 := Tryz.underlying4
  a4 := Tryz.isAgg4
  z4 := Tryz.sizeOf4
  v4 := Tryz.zeroValue4
  t23 := Tryz.underlying283
  a23 := Tryz.isAgg283
  z23 := Tryz.sizeOf283
  v23 := Tryz.zeroValue283
  t26 := Tryz.underlying3
  a26 := Tryz.isAgg3
  z26 := Tryz.sizeOf3
  v26 := Tryz.zeroValue3
  t27 := Tryz.underlying297
  a27 := Tryz.isAgg297
  z27 := Tryz.sizeOf297
  v27 := Tryz.zeroValue297
  t28 := Tryz.underlying298
  a28 := Tryz.isAgg298
  z28 := Tryz.sizeOf298
  v28 := Tryz.zeroValue298
  t33 := Tryz.underlying42
  a33 := Tryz.isAgg42
  z33 := Tryz.sizeOf42
  v33 := Tryz.zeroValue42 }
def Tryz.keysS0_ren : Go.Shelf.Ren := ⟨fun | 7 => 217 | 10 => 317 | n => n, fun | 23 => 103 | 26 => 9 | 3 => 336 | 28 => 340 | 0 => 0 | 27 => 339 | 33 => 373 | 4 => 4 | n => n, fun | n => n⟩
theorem Tryz.keysS0 : Go.Proofs.SlLaysZ.n7 Tryz.prog Tryz.keysS0_ren := {
  mixed := by kernel_rfl
  f7 := ⟨Tryz.f217.name, by decide, Tryz.func217.trans (congrArg some (by kernel_rfl))⟩
  f10 := ⟨Tryz.f317.name, by decide, Tryz.func317.trans (congrArg some (by kernel_rfl))⟩
  t0 := Tryz.underlying0
  a0 := Tryz.isAgg0
  z0 := Tryz.sizeOf0
  v0 := Tryz.zeroValue0
  t4 := Tryz.underlying4
  a4 := Tryz.isAgg4
  z4 := Tryz.sizeOf4
  v4 := Tryz.zeroValue4
  t23 := Tryz.underlying103
  a23 := Tryz.isAgg103
  z23 := Tryz.sizeOf103
  v23 := Tryz.zeroValue103
  t26 := Tryz.underlying9
  a26 := Tryz.isAgg9
  z26 := Tryz.sizeOf9
  v26 := Tryz.zeroValue9
  t27 := Tryz.underlying339
  a27 := Tryz.isAgg339
  z27 := Tryz.sizeOf339
  v27 := Tryz.zeroValue339
  t28 := Tryz.underlying340
  a28 := Tryz.isAgg340
  z28 := Tryz.sizeOf340
  v28 := Tryz.zeroValue340
  t33 := Tryz.underlying373
  a33 := Tryz.isAgg373
  z33 := Tryz.sizeOf373
  v33 := Tryz.zeroValue373 }
def Tryz.sortedA_ren : Go.Shelf.Ren := ⟨fun | 6 => 168 | 8 => 263 | 9 => 264 | 11 => 370 | 13 => 301 | 12 => 371 | 23 => 391 | 24 => 392 | 14 => 470 | 15 => 471 | 16 => 472 | 17 => 473 | 18 => 474 | 19 => 475 | 20 => 476 | 21 => 477 | 22 => 478 | 25 => 575 | 26 => 484 | 27 => 485 | 28 => 576 | 29 => 577 | 30 => 578 | 31 => 642 | n => n, fun | 26 => 3 | 28 => 298 | 24 => 275 | 0 => 0 | 3 => 3 | 37 => 270 | 48 => 169 | 50 => 27 | 4 => 4 | 40 => 514 | 39 => 513 | 45 => 423 | 5 => 5 | 9 => 9 | 51 => 593 | 55 => 596 | 57 => 669 | 58 => 129 | 33 => 42 | n => n, fun | n => n⟩
theorem Tryz.sortedA : Go.Proofs.SlLaysZI.n6 Tryz.prog Tryz.sortedA_ren := {
  mixed := by kernel_rfl
  f6 := ⟨Tryz.f168.name, by decide, Tryz.func168.trans (congrArg some (by kernel_rfl))⟩
  f8 := ⟨Tryz.f263.name, by decide, Tryz.func263.trans (congrArg some (by kernel_rfl))⟩
  f11 := ⟨Tryz.f370.name, by decide, Tryz.func370.trans (congrArg some (by kernel_rfl))⟩
  t0 := Tryz.underlying0
  a0 := Tryz.isAgg0
  z0 := Tryz.sizeOf0
  v0 := Tryz.zeroValue0
  t24 := Tryz.underlying275
  a24 := Tryz.isAgg275
  z24 := Tryz.sizeOf275
  v24 := Tryz.zeroValue275
  t26 := Tryz.underlying3
  a26 := Tryz.isAgg3
  z26 := Tryz.sizeOf3
  v26 := Tryz.zeroValue3
  t28 := Tryz.underlying298
  a28 := Tryz.isAgg298
  z28 := Tryz.sizeOf298
  v28 := Tryz.zeroValue298
  i26 := by kernel_rfl }
def Tryz.sortA_ren : Go.Shelf.Ren := ⟨fun | 5 => 264 | 8 => 301 | 7 => 371 | 19 => 391 | 20 => 392 | 10 => 470 | 11 => 471 | 12 => 472 | 13 => 473 | 14 => 474 | 15 => 475 | 16 => 476 | 17 => 477 | 18 => 478 | 30 => 575 | 31 => 484 | 32 => 485 | 33 => 576 | 34 => 577 | 35 => 578 | 40 => 642 | n => n, fun | 23 => 275 | 25 => 3 | 3 => 3 | 32 => 270 | 22 => 275 | 0 => 0 | 44 => 169 | 46 => 27 | 4 => 4 | 36 => 514 | 35 => 513 | 41 => 423 | 5 => 5 | 9 => 9 | 53 => 593 | 57 => 596 | 63 => 669 | 64 => 129 | n => n, fun | n => n⟩
theorem Tryz.sortA : Go.Proofs.SlLaysM.n5 Tryz.prog Tryz.sortA_ren := {
  mixed := by kernel_rfl
  f5 := ⟨Tryz.f264.name, by decide, Tryz.func264.trans (congrArg some (by kernel_rfl))⟩
  f7 := ⟨Tryz.f371.name, by decide, Tryz.func371.trans (congrArg some (by kernel_rfl))⟩
  f8 := Tryz.func301.trans (congrArg some (by kernel_rfl))
  f10 := ⟨Tryz.f470.name, by decide, Tryz.func470.trans (congrArg some (by kernel_rfl))⟩
  f11 := ⟨Tryz.f471.name, by decide, Tryz.func471.trans (congrArg some (by kernel_rfl))⟩
  f12 := ⟨Tryz.f472.name, by decide, Tryz.func472.trans (congrArg some (by kernel_rfl))⟩
  f13 := ⟨Tryz.f473.name, by decide, Tryz.func473.trans (congrArg some (by kernel_rfl))⟩
  f14 := ⟨Tryz.f474.name, by decide, Tryz.func474.trans (congrArg some (by kernel_rfl))⟩
  f15 := ⟨Tryz.f475.name, by decide, Tryz.func475.trans (congrArg some (by kernel_rfl))⟩
  f16 := ⟨Tryz.f476.name, by decide, Tryz.func476.trans (congrArg some (by kernel_rfl))⟩
  f17 := ⟨Tryz.f477.name, by decide, Tryz.func477.trans (congrArg some (by kernel_rfl))⟩
  f18 := ⟨Tryz.f478.name, by decide, Tryz.func478.trans (congrArg some (by kernel_rfl))⟩
  f19 := Tryz.func391.trans (congrArg some (by kernel_rfl))
  f20 := Tryz.func392.trans (congrArg some (by kernel_rfl))
  f30 := ⟨Tryz.f575.name, by decide, Tryz.func575.trans (congrArg some (by kernel_rfl))⟩
  f31 := Tryz.func484.trans (congrArg some (by kernel_rfl))
  f32 := Tryz.func485.trans (congrArg some (by kernel_rfl))
  f33 := ⟨Tryz.f576.name, by decide, Tryz.func576.trans (congrArg some (by kernel_rfl))⟩
  f34 := ⟨Tryz.f577.name, by decide, Tryz.func577.trans (congrArg some (by kernel_rfl))⟩
  f35 := ⟨Tryz.f578.name, by decide, Tryz.func578.trans (congrArg some (by kernel_rfl))⟩
  f40 := ⟨Tryz.f642.name, by decide, Tryz.func642.trans (congrArg some (by kernel_rfl))⟩
  t0 := Tryz.underlying0
  a0 := Tryz.isAgg0
  z0 := Tryz.sizeOf0
  v0 := Tryz.zeroValue0
  t3 := Tryz.underlying3
  a3 := Tryz.isAgg3
  z3 := Tryz.sizeOf3
  v3 := Tryz.zeroValue3
  t4 := Tryz.underlying4
  a4 := Tryz.isAgg4
  z4 := Tryz.sizeOf4
  v4 := Tryz.zeroValue4
  t5 := Tryz.underlying5
  a5 := Tryz.isAgg5
  z5 := Tryz.sizeOf5
  v5 := Tryz.zeroValue5
  t9 := Tryz.underlying9
  a9 := Tryz.isAgg9
  z9 := Tryz.sizeOf9
  v9 := Tryz.zeroValue9
  t22 := Tryz.underlying275
  a22 := Tryz.isAgg275
  z22 := Tryz.sizeOf275
  v22 := Tryz.zeroValue275
  t23 := Tryz.underlying275
  a23 := Tryz.isAgg275
  z23 := Tryz.sizeOf275
  v23 := Tryz.zeroValue275
  t25 := Tryz.underlying3
  a25 := Tryz.isAgg3
  z25 := Tryz.sizeOf3
  v25 := Tryz.zeroValue3
  t32 := Tryz.underlying270
  a32 := Tryz.isAgg270
  z32 := Tryz.sizeOf270
  v32 := Tryz.zeroValue270
  t35 := Tryz.underlying513
  a35 := Tryz.isAgg513
  z35 := Tryz.sizeOf513
  v35 := Tryz.zeroValue513
  t36 := Tryz.underlying514
  a36 := Tryz.isAgg514
  z36 := Tryz.sizeOf514
  v36 := Tryz.zeroValue514
  t41 := Tryz.underlying423
  a41 := Tryz.isAgg423
  z41 := Tryz.sizeOf423
  v41 := Tryz.zeroValue423
  t44 := Tryz.underlying169
  a44 := Tryz.isAgg169
  z44 := Tryz.sizeOf169
  v44 := Tryz.zeroValue169
  t46 := Tryz.underlying27
  a46 := Tryz.isAgg27
  z46 := Tryz.sizeOf27
  v46 := Tryz.zeroValue27
  t53 := Tryz.underlying593
  a53 := Tryz.isAgg593
  z53 := Tryz.sizeOf593
  v53 := Tryz.zeroValue593
  t57 := Tryz.underlying596
  a57 := Tryz.isAgg596
  z57 := Tryz.sizeOf596
  v57 := Tryz.zeroValue596
  t63 := Tryz.underlying669
  a63 := Tryz.isAgg669
  z63 := Tryz.sizeOf669
  v63 := Tryz.zeroValue669
  t64 := Tryz.underlying129
  a64 := Tryz.isAgg129
  z64 := Tryz.sizeOf129
  v64 := Tryz.zeroValue129 }
def Tryz.sortedS_ren : Go.Shelf.Ren := ⟨fun | 6 => 216 | 8 => 315 | 9 => 316 | 11 => 405 | 13 => 301 | 12 => 406 | 23 => 391 | 24 => 392 | 14 => 502 | 15 => 503 | 16 => 504 | 17 => 505 | 18 => 506 | 19 => 507 | 20 => 508 | 21 => 509 | 22 => 510 | 25 => 587 | 26 => 484 | 27 => 485 | 28 => 588 | 29 => 589 | 30 => 590 | 31 => 644 | n => n, fun | 26 => 9 | 28 => 340 | 24 => 337 | 0 => 0 | 3 => 3 | 37 => 270 | 48 => 169 | 50 => 27 | 4 => 4 | 40 => 514 | 39 => 513 | 45 => 423 | 5 => 5 | 9 => 9 | 51 => 593 | 55 => 596 | 57 => 669 | 58 => 129 | 33 => 373 | n => n, fun | n => n⟩
theorem Tryz.sortedS : Go.Proofs.SlLaysZ.n6 Tryz.prog Tryz.sortedS_ren := {
  mixed := by kernel_rfl
  f6 := ⟨Tryz.f216.name, by decide, Tryz.func216.trans (congrArg some (by kernel_rfl))⟩
  f8 := ⟨Tryz.f315.name, by decide, Tryz.func315.trans (congrArg some (by kernel_rfl))⟩
  f11 := ⟨Tryz.f405.name, by decide, Tryz.func405.trans (congrArg some (by kernel_rfl))⟩
  t0 := Tryz.underlying0
  a0 := Tryz.isAgg0
  z0 := Tryz.sizeOf0
  v0 := Tryz.zeroValue0
  t24 := Tryz.underlying337
  a24 := Tryz.isAgg337
  z24 := Tryz.sizeOf337
  v24 := Tryz.zeroValue337
  t26 := Tryz.underlying9
  a26 := Tryz.isAgg9
  z26 := Tryz.sizeOf9
  v26 := Tryz.zeroValue9
  t28 := Tryz.underlying340
  a28 := Tryz.isAgg340
  z28 := Tryz.sizeOf340
  v28 := Tryz.zeroValue340
  i26 := by kernel_rfl }
def Tryz.sortS_ren : Go.Shelf.Ren := ⟨fun | 6 => 316 | 8 => 301 | 9 => 406 | 19 => 391 | 20 => 392 | 21 => 502 | 22 => 503 | 23 => 504 | 24 => 505 | 25 => 506 | 26 => 507 | 27 => 508 | 28 => 509 | 29 => 510 | 36 => 587 | 31 => 484 | 32 => 485 | 37 => 588 | 38 => 589 | 39 => 590 | 41 => 644 | n => n, fun | 27 => 337 | 29 => 9 | 3 => 3 | 32 => 270 | 26 => 337 | 0 => 0 | 44 => 169 | 46 => 27 | 4 => 4 | 36 => 514 | 35 => 513 | 41 => 423 | 5 => 5 | 9 => 9 | 53 => 593 | 57 => 596 | 63 => 669 | 64 => 129 | n => n, fun | n => n⟩
theorem Tryz.sortS : Go.Proofs.SlLaysM.n6 Tryz.prog Tryz.sortS_ren := {
  mixed := by kernel_rfl
  f6 := ⟨Tryz.f316.name, by decide, Tryz.func316.trans (congrArg some (by kernel_rfl))⟩
  f8 := Tryz.func301.trans (congrArg some (by kernel_rfl))
  f9 := ⟨Tryz.f406.name, by decide, Tryz.func406.trans (congrArg some (by kernel_rfl))⟩
  f19 := Tryz.func391.trans (congrArg some (by kernel_rfl))
  f20 := Tryz.func392.trans (congrArg some (by kernel_rfl))
  f21 := ⟨Tryz.f502.name, by decide, Tryz.func502.trans (congrArg some (by kernel_rfl))⟩
  f22 := ⟨Tryz.f503.name, by decide, Tryz.func503.trans (congrArg some (by kernel_rfl))⟩
  f23 := ⟨Tryz.f504.name, by decide, Tryz.func504.trans (congrArg some (by kernel_rfl))⟩
  f24 := ⟨Tryz.f505.name, by decide, Tryz.func505.trans (congrArg some (by kernel_rfl))⟩
  f25 := ⟨Tryz.f506.name, by decide, Tryz.func506.trans (congrArg some (by kernel_rfl))⟩
  f26 := ⟨Tryz.f507.name, by decide, Tryz.func507.trans (congrArg some (by kernel_rfl))⟩
  f27 := ⟨Tryz.f508.name, by decide, Tryz.func508.trans (congrArg some (by kernel_rfl))⟩
  f28 := ⟨Tryz.f509.name, by decide, Tryz.func509.trans (congrArg some (by kernel_rfl))⟩
  f29 := ⟨Tryz.f510.name, by decide, Tryz.func510.trans (congrArg some (by kernel_rfl))⟩
  f31 := Tryz.func484.trans (congrArg some (by kernel_rfl))
  f32 := Tryz.func485.trans (congrArg some (by kernel_rfl))
  f36 := ⟨Tryz.f587.name, by decide, Tryz.func587.trans (congrArg some (by kernel_rfl))⟩
  f37 := ⟨Tryz.f588.name, by decide, Tryz.func588.trans (congrArg some (by kernel_rfl))⟩
  f38 := ⟨Tryz.f589.name, by decide, Tryz.func589.trans (congrArg some (by kernel_rfl))⟩
  f39 := ⟨Tryz.f590.name, by decide, Tryz.func590.trans (congrArg some (by kernel_rfl))⟩
  f41 := ⟨Tryz.f644.name, by decide, Tryz.func644.trans (congrArg some (by kernel_rfl))⟩
  t0 := Tryz.underlying0
  a0 := Tryz.isAgg0
  z0 := Tryz.sizeOf0
  v0 := Tryz.zeroValue0
  t3 := Tryz.underlying3
  a3 := Tryz.isAgg3
  z3 := Tryz.sizeOf3
  v3 := Tryz.zeroValue3
  t4 := Tryz.underlying4
  a4 := Tryz.isAgg4
  z4 := Tryz.sizeOf4
  v4 := Tryz.zeroValue4
  t5 := Tryz.underlying5
  a5 := Tryz.isAgg5
  z5 := Tryz.sizeOf5
  v5 := Tryz.zeroValue5
  t9 := Tryz.underlying9
  a9 := Tryz.isAgg9
  z9 := Tryz.sizeOf9
  v9 := Tryz.zeroValue9
  t26 := Tryz.underlying337
  a26 := Tryz.isAgg337
  z26 := Tryz.sizeOf337
  v26 := Tryz.zeroValue337
  t27 := Tryz.underlying337
  a27 := Tryz.isAgg337
  z27 := Tryz.sizeOf337
  v27 := Tryz.zeroValue337
  t29 := Tryz.underlying9
  a29 := Tryz.isAgg9
  z29 := Tryz.sizeOf9
  v29 := Tryz.zeroValue9
  t32 := Tryz.underlying270
  a32 := Tryz.isAgg270
  z32 := Tryz.sizeOf270
  v32 := Tryz.zeroValue270
  t35 := Tryz.underlying513
  a35 := Tryz.isAgg513
  z35 := Tryz.sizeOf513
  v35 := Tryz.zeroValue513
  t36 := Tryz.underlying514
  a36 := Tryz.isAgg514
  z36 := Tryz.sizeOf514
  v36 := Tryz.zeroValue514
  t41 := Tryz.underlying423
  a41 := Tryz.isAgg423
  z41 := Tryz.sizeOf423
  v41 := Tryz.zeroValue423
  t44 := Tryz.underlying169
  a44 := Tryz.isAgg169
  z44 := Tryz.sizeOf169
  v44 := Tryz.zeroValue169
  t46 := Tryz.underlying27
  a46 := Tryz.isAgg27
  z46 := Tryz.sizeOf27
  v46 := Tryz.zeroValue27
  t53 := Tryz.underlying593
  a53 := Tryz.isAgg593
  z53 := Tryz.sizeOf593
  v53 := Tryz.zeroValue593
  t57 := Tryz.underlying596
  a57 := Tryz.isAgg596
  z57 := Tryz.sizeOf596
  v57 := Tryz.zeroValue596
  t63 := Tryz.underlying669
  a63 := Tryz.isAgg669
  z63 := Tryz.sizeOf669
  v63 := Tryz.zeroValue669
  t64 := Tryz.underlying129
  a64 := Tryz.isAgg129
  z64 := Tryz.sizeOf129
  v64 := Tryz.zeroValue129 }
end Go.Proofs
namespace Go.Proofs
open Go.RowKit Go.Maps Go.Sort Go.Shelf
set_option maxRecDepth 100000
theorem Tryz.sortsA (m : Nat) : AnyZI.SortsIn Tryz.prog Tryz.sortedA_ren Fence.wide m :=
  ⟨fun blk off cap ss W hH hblk hsz => callsIn_wide.2 (AnyM.slices_Sort_int Tryz.sortA blk off cap ss W hH hblk hsz),
   fun p cap W => callsIn_wide.2 (AnyM.slices_Sort_int_none Tryz.sortA p cap W)⟩
theorem Tryz.sortsS (m : Nat) : AnyZ.SortsIn Tryz.prog Tryz.sortedS_ren Fence.wide m :=
  ⟨fun blk off cap ss W hH hblk hsz => callsIn_wide.2 (AnyM.slices_Sort_string Tryz.sortS blk off cap ss W hH hblk hsz),
   fun p cap W => callsIn_wide.2 (AnyM.slices_Sort_string_none Tryz.sortS p cap W)⟩
def Tryz.gsI (g : Nat) : Bool := Nat.beq g 265 || Nat.beq g 580 || Nat.beq g 643
def Tryz.gsS (g : Nat) : Bool := Nat.beq g 317
open Go.Mu in
theorem Tryz.sortedI {base : Nat} {args : List AVal} {hp : Heap} {nx : Nat} {o : Out} (h : sortedHI Tryz.gsI 3 args hp nx = some o) :
    ∀ ρ cargs w, VRs ρ args cargs → HR ρ hp w base → Fresh ρ nx → base ≤ w.heap.size → Does Tryz.prog 168 cargs.toArray w (OutR ρ hp nx base w o) := by
  refine sortedI_hook (r := Tryz.sortedA_ren) Tryz.sortedA Tryz.sortsA (enters_of Tryz.func168 (by kernel_rfl) rfl) (enters_of Tryz.func264 (by kernel_rfl) rfl) (gs := Tryz.gsI) (fun g hg => ?_) h
  simp only [Tryz.gsI, Bool.or_eq_true, Nat.beq_eq] at hg
  rcases hg with (rfl | rfl) | rfl
  · exact ⟨Tryz.keysI0_ren, { Tryz.keysI0 with }, rfl, Tryz.keysI0.t26, enters_of Tryz.func265 (by kernel_rfl) rfl⟩
  · exact ⟨Tryz.keysI1_ren, { Tryz.keysI1 with }, rfl, Tryz.keysI1.t26, enters_of Tryz.func580 (by kernel_rfl) rfl⟩
  · exact ⟨Tryz.keysI2_ren, { Tryz.keysI2 with }, rfl, Tryz.keysI2.t26, enters_of Tryz.func643 (by kernel_rfl) rfl⟩
open Go.Mu in
theorem Tryz.sortedSS {base : Nat} {args : List AVal} {hp : Heap} {nx : Nat} {o : Out} (h : sortedHS Tryz.gsS 9 args hp nx = some o) :
    ∀ ρ cargs w, VRs ρ args cargs → HR ρ hp w base → Fresh ρ nx → base ≤ w.heap.size → Does Tryz.prog 216 cargs.toArray w (OutR ρ hp nx base w o) := by
  refine sortedS_hook (r := Tryz.sortedS_ren) Tryz.sortedS Tryz.sortsS (enters_of Tryz.func216 (by kernel_rfl) rfl) (enters_of Tryz.func316 (by kernel_rfl) rfl) (gs := Tryz.gsS) (fun g hg => ?_) h
  simp only [Tryz.gsS, Nat.beq_eq] at hg
  subst hg
  exact ⟨Tryz.keysS0_ren, { Tryz.keysS0 with }, rfl, Tryz.keysS0.t26, enters_of Tryz.func317 (by kernel_rfl) rfl⟩
end Go.Proofs
