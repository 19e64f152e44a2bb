/- Lemmas for the statement of the last text of this claim. -/
import Derived.Test.YtoihpnpfnechdaaGreatDoorV3AD
import Derived.Shelf.SlIterI.Sorted
import Derived.Shelf.SortM.Plain
import Derived.Shelf.SortM.SortNone
import Derived.Shelf.SlSortCmp.WholeK
import Derived.Ground.GgzProg
import Derived.Ground.SlgmProg
import Derived.Ground.SlsfProg
import Derived.Test.YtoihpnpfnechdaaGreatDoorChecked
import Derived.Shelf.Strings.OnBuilder
import Derived.Shelf.Strings.Split
import Derived.Shelf.Strings.Cut
import Derived.Shelf.Strings.Fields
import Derived.Shelf.Strings.Repeat
import Derived.Shelf.Strings.Search3
import Derived.Shelf.Strconv.Itoa3
import Derived.Shelf.Strconv.Atoi
import Derived.ProofKit
import Derived.WalkKit
import Derived.Lib.Walk
import Derived.Deep.LoopGhost
import Derived.RangeFuncBox
import Derived.RangeFuncLeaves
import Derived.Shelf.Abstract
import Derived.OwnWalkIn
import Derived.TacticsInMore
import Derived.LoopNIn
import Derived.LoopIn
import Derived.KernelRfl
import Derived.Maps.Own
set_option linter.unusedSimpArgs false
set_option linter.unusedVariables false
namespace Go.Proofs.YtoihpnpfnechdaaGreatDoor
open Go.Shelf
def Tryz.keysA_ren : Go.Shelf.Ren := ⟨fun | 7 => 121 | 10 => 208 | n => n, fun | 23 => 132 | 26 => 3 | 3 => 81 | 28 => 226 | 0 => 0 | 27 => 225 | 33 => 87 | 4 => 4 | n => n, fun | n => n⟩
theorem Tryz.keysA : Go.Proofs.SlLaysZI.n7 Tryz.prog Tryz.keysA_ren := {
  mixed := by kernel_rfl
  f7 := ⟨Tryz.f121.name, by decide, Tryz.func121.trans (congrArg some (by kernel_rfl))⟩
  f10 := ⟨Tryz.f208.name, by decide, Tryz.func208.trans (congrArg some (by kernel_rfl))⟩
  t0 := Tryz.underlying0
  a0 := Tryz.isAgg0
  z0 := Tryz.sizeOf0
  v0 := Tryz.zeroValue0
  t4 := Tryz.underlying4
  a4 := Tryz.isAgg4
  z4 := Tryz.sizeOf4
  v4 := Tryz.zeroValue4
  t23 := Tryz.underlying132
  a23 := Tryz.isAgg132
  z23 := Tryz.sizeOf132
  v23 := Tryz.zeroValue132
  t26 := Tryz.underlying3
  a26 := Tryz.isAgg3
  z26 := Tryz.sizeOf3
  v26 := Tryz.zeroValue3
  t27 := Tryz.underlying225
  a27 := Tryz.isAgg225
  z27 := Tryz.sizeOf225
  v27 := Tryz.zeroValue225
  t28 := Tryz.underlying226
  a28 := Tryz.isAgg226
  z28 := Tryz.sizeOf226
  v28 := Tryz.zeroValue226
  t33 := Tryz.underlying87
  a33 := Tryz.isAgg87
  z33 := Tryz.sizeOf87
  v33 := Tryz.zeroValue87 }
def Tryz.sortedA_ren : Go.Shelf.Ren := ⟨fun | 6 => 120 | 8 => 207 | 9 => 126 | 11 => 267 | 13 => 212 | 12 => 211 | 23 => 278 | 24 => 279 | 14 => 270 | 15 => 271 | 16 => 272 | 17 => 273 | 18 => 274 | 19 => 275 | 20 => 136 | 21 => 276 | 22 => 277 | 25 => 333 | 26 => 334 | 27 => 335 | 28 => 336 | 29 => 337 | 30 => 218 | 31 => 375 | n => n, fun | 26 => 3 | 28 => 226 | 24 => 22 | 0 => 0 | 3 => 3 | 37 => 241 | 48 => 368 | 50 => 370 | 4 => 4 | 40 => 362 | 39 => 361 | 45 => 123 | 5 => 5 | 9 => 9 | 51 => 412 | 55 => 416 | 57 => 452 | 58 => 300 | 33 => 87 | n => n, fun | n => n⟩
theorem Tryz.sortedA : Go.Proofs.SlLaysZI.n6 Tryz.prog Tryz.sortedA_ren := {
  mixed := by kernel_rfl
  f6 := ⟨Tryz.f120.name, by decide, Tryz.func120.trans (congrArg some (by kernel_rfl))⟩
  f8 := ⟨Tryz.f207.name, by decide, Tryz.func207.trans (congrArg some (by kernel_rfl))⟩
  f11 := ⟨Tryz.f267.name, by decide, Tryz.func267.trans (congrArg some (by kernel_rfl))⟩
  t0 := Tryz.underlying0
  a0 := Tryz.isAgg0
  z0 := Tryz.sizeOf0
  v0 := Tryz.zeroValue0
  t24 := Tryz.underlying22
  a24 := Tryz.isAgg22
  z24 := Tryz.sizeOf22
  v24 := Tryz.zeroValue22
  t26 := Tryz.underlying3
  a26 := Tryz.isAgg3
  z26 := Tryz.sizeOf3
  v26 := Tryz.zeroValue3
  t28 := Tryz.underlying226
  a28 := Tryz.isAgg226
  z28 := Tryz.sizeOf226
  v28 := Tryz.zeroValue226
  i26 := by kernel_rfl }
def Tryz.sortA_ren : Go.Shelf.Ren := ⟨fun | 5 => 126 | 8 => 212 | 7 => 211 | 19 => 278 | 20 => 279 | 10 => 270 | 11 => 271 | 12 => 272 | 13 => 273 | 14 => 274 | 15 => 275 | 16 => 136 | 17 => 276 | 18 => 277 | 30 => 333 | 31 => 334 | 32 => 335 | 33 => 336 | 34 => 337 | 35 => 218 | 40 => 375 | n => n, fun | 23 => 22 | 25 => 3 | 3 => 3 | 32 => 241 | 22 => 22 | 0 => 0 | 44 => 368 | 46 => 370 | 4 => 4 | 36 => 362 | 35 => 361 | 41 => 123 | 5 => 5 | 9 => 9 | 53 => 412 | 57 => 416 | 63 => 452 | 64 => 300 | n => n, fun | n => n⟩
theorem Tryz.sortA : Go.Proofs.SlLaysM.n5 Tryz.prog Tryz.sortA_ren := {
  mixed := by kernel_rfl
  f5 := ⟨Tryz.f126.name, by decide, Tryz.func126.trans (congrArg some (by kernel_rfl))⟩
  f7 := ⟨Tryz.f211.name, by decide, Tryz.func211.trans (congrArg some (by kernel_rfl))⟩
  f8 := Tryz.func212.trans (congrArg some (by kernel_rfl))
  f10 := ⟨Tryz.f270.name, by decide, Tryz.func270.trans (congrArg some (by kernel_rfl))⟩
  f11 := ⟨Tryz.f271.name, by decide, Tryz.func271.trans (congrArg some (by kernel_rfl))⟩
  f12 := ⟨Tryz.f272.name, by decide, Tryz.func272.trans (congrArg some (by kernel_rfl))⟩
  f13 := ⟨Tryz.f273.name, by decide, Tryz.func273.trans (congrArg some (by kernel_rfl))⟩
  f14 := ⟨Tryz.f274.name, by decide, Tryz.func274.trans (congrArg some (by kernel_rfl))⟩
  f15 := ⟨Tryz.f275.name, by decide, Tryz.func275.trans (congrArg some (by kernel_rfl))⟩
  f16 := ⟨Tryz.f136.name, by decide, Tryz.func136.trans (congrArg some (by kernel_rfl))⟩
  f17 := ⟨Tryz.f276.name, by decide, Tryz.func276.trans (congrArg some (by kernel_rfl))⟩
  f18 := ⟨Tryz.f277.name, by decide, Tryz.func277.trans (congrArg some (by kernel_rfl))⟩
  f19 := Tryz.func278.trans (congrArg some (by kernel_rfl))
  f20 := Tryz.func279.trans (congrArg some (by kernel_rfl))
  f30 := ⟨Tryz.f333.name, by decide, Tryz.func333.trans (congrArg some (by kernel_rfl))⟩
  f31 := Tryz.func334.trans (congrArg some (by kernel_rfl))
  f32 := Tryz.func335.trans (congrArg some (by kernel_rfl))
  f33 := ⟨Tryz.f336.name, by decide, Tryz.func336.trans (congrArg some (by kernel_rfl))⟩
  f34 := ⟨Tryz.f337.name, by decide, Tryz.func337.trans (congrArg some (by kernel_rfl))⟩
  f35 := ⟨Tryz.f218.name, by decide, Tryz.func218.trans (congrArg some (by kernel_rfl))⟩
  f40 := ⟨Tryz.f375.name, by decide, Tryz.func375.trans (congrArg some (by kernel_rfl))⟩
  t0 := Tryz.underlying0
  a0 := Tryz.isAgg0
  z0 := Tryz.sizeOf0
  v0 := Tryz.zeroValue0
  t3 := Tryz.underlying3
  a3 := Tryz.isAgg3
  z3 := Tryz.sizeOf3
  v3 := Tryz.zeroValue3
  t4 := Tryz.underlying4
  a4 := Tryz.isAgg4
  z4 := Tryz.sizeOf4
  v4 := Tryz.zeroValue4
  t5 := Tryz.underlying5
  a5 := Tryz.isAgg5
  z5 := Tryz.sizeOf5
  v5 := Tryz.zeroValue5
  t9 := Tryz.underlying9
  a9 := Tryz.isAgg9
  z9 := Tryz.sizeOf9
  v9 := Tryz.zeroValue9
  t22 := Tryz.underlying22
  a22 := Tryz.isAgg22
  z22 := Tryz.sizeOf22
  v22 := Tryz.zeroValue22
  t23 := Tryz.underlying22
  a23 := Tryz.isAgg22
  z23 := Tryz.sizeOf22
  v23 := Tryz.zeroValue22
  t25 := Tryz.underlying3
  a25 := Tryz.isAgg3
  z25 := Tryz.sizeOf3
  v25 := Tryz.zeroValue3
  t32 := Tryz.underlying241
  a32 := Tryz.isAgg241
  z32 := Tryz.sizeOf241
  v32 := Tryz.zeroValue241
  t35 := Tryz.underlying361
  a35 := Tryz.isAgg361
  z35 := Tryz.sizeOf361
  v35 := Tryz.zeroValue361
  t36 := Tryz.underlying362
  a36 := Tryz.isAgg362
  z36 := Tryz.sizeOf362
  v36 := Tryz.zeroValue362
  t41 := Tryz.underlying123
  a41 := Tryz.isAgg123
  z41 := Tryz.sizeOf123
  v41 := Tryz.zeroValue123
  t44 := Tryz.underlying368
  a44 := Tryz.isAgg368
  z44 := Tryz.sizeOf368
  v44 := Tryz.zeroValue368
  t46 := Tryz.underlying370
  a46 := Tryz.isAgg370
  z46 := Tryz.sizeOf370
  v46 := Tryz.zeroValue370
  t53 := Tryz.underlying412
  a53 := Tryz.isAgg412
  z53 := Tryz.sizeOf412
  v53 := Tryz.zeroValue412
  t57 := Tryz.underlying416
  a57 := Tryz.isAgg416
  z57 := Tryz.sizeOf416
  v57 := Tryz.zeroValue416
  t63 := Tryz.underlying452
  a63 := Tryz.isAgg452
  z63 := Tryz.sizeOf452
  v63 := Tryz.zeroValue452
  t64 := Tryz.underlying300
  a64 := Tryz.isAgg300
  z64 := Tryz.sizeOf300
  v64 := Tryz.zeroValue300 }
def Tryz.sortSeg_ren : Go.Shelf.Ren := ⟨fun | 6 => 134 | 15 => 212 | 14 => 217 | 28 => 278 | 29 => 279 | 20 => 282 | 21 => 283 | 22 => 284 | 23 => 285 | 24 => 286 | 25 => 287 | 26 => 288 | 27 => 289 | 46 => 340 | 47 => 334 | 48 => 335 | 49 => 341 | 50 => 342 | 57 => 376 | n => n, fun | 22 => 52 | 24 => 57 | 25 => 240 | 3 => 3 | 39 => 241 | 0 => 0 | 53 => 368 | 55 => 370 | 4 => 4 | 46 => 362 | 45 => 361 | 50 => 123 | 5 => 5 | 9 => 9 | 66 => 412 | 70 => 416 | 76 => 452 | 77 => 300 | n => n, fun | n => n⟩
theorem Tryz.sortSeg : Go.Proofs.SlLaysF0.n6 Tryz.prog Tryz.sortSeg_ren := {
  mixed := by kernel_rfl
  f6 := ⟨Tryz.f134.name, by decide, Tryz.func134.trans (congrArg some (by kernel_rfl))⟩
  f14 := ⟨Tryz.f217.name, by decide, Tryz.func217.trans (congrArg some (by kernel_rfl))⟩
  f15 := Tryz.func212.trans (congrArg some (by kernel_rfl))
  f20 := ⟨Tryz.f282.name, by decide, Tryz.func282.trans (congrArg some (by kernel_rfl))⟩
  f21 := ⟨Tryz.f283.name, by decide, Tryz.func283.trans (congrArg some (by kernel_rfl))⟩
  f22 := ⟨Tryz.f284.name, by decide, Tryz.func284.trans (congrArg some (by kernel_rfl))⟩
  f23 := ⟨Tryz.f285.name, by decide, Tryz.func285.trans (congrArg some (by kernel_rfl))⟩
  f24 := ⟨Tryz.f286.name, by decide, Tryz.func286.trans (congrArg some (by kernel_rfl))⟩
  f25 := ⟨Tryz.f287.name, by decide, Tryz.func287.trans (congrArg some (by kernel_rfl))⟩
  f26 := ⟨Tryz.f288.name, by decide, Tryz.func288.trans (congrArg some (by kernel_rfl))⟩
  f27 := ⟨Tryz.f289.name, by decide, Tryz.func289.trans (congrArg some (by kernel_rfl))⟩
  f28 := Tryz.func278.trans (congrArg some (by kernel_rfl))
  f29 := Tryz.func279.trans (congrArg some (by kernel_rfl))
  f46 := ⟨Tryz.f340.name, by decide, Tryz.func340.trans (congrArg some (by kernel_rfl))⟩
  f47 := Tryz.func334.trans (congrArg some (by kernel_rfl))
  f48 := Tryz.func335.trans (congrArg some (by kernel_rfl))
  f49 := ⟨Tryz.f341.name, by decide, Tryz.func341.trans (congrArg some (by kernel_rfl))⟩
  f50 := ⟨Tryz.f342.name, by decide, Tryz.func342.trans (congrArg some (by kernel_rfl))⟩
  f57 := ⟨Tryz.f376.name, by decide, Tryz.func376.trans (congrArg some (by kernel_rfl))⟩
  t0 := Tryz.underlying0
  a0 := Tryz.isAgg0
  z0 := Tryz.sizeOf0
  v0 := Tryz.zeroValue0
  t3 := Tryz.underlying3
  a3 := Tryz.isAgg3
  z3 := Tryz.sizeOf3
  v3 := Tryz.zeroValue3
  t4 := Tryz.underlying4
  a4 := Tryz.isAgg4
  z4 := Tryz.sizeOf4
  v4 := Tryz.zeroValue4
  t5 := Tryz.underlying5
  a5 := Tryz.isAgg5
  z5 := Tryz.sizeOf5
  v5 := Tryz.zeroValue5
  t9 := Tryz.underlying9
  a9 := Tryz.isAgg9
  z9 := Tryz.sizeOf9
  v9 := Tryz.zeroValue9
  t22 := Tryz.underlying52
  a22 := Tryz.isAgg52
  z22 := Tryz.sizeOf52
  v22 := Tryz.zeroValue52
  t25 := Tryz.underlying240
  a25 := Tryz.isAgg240
  z25 := Tryz.sizeOf240
  v25 := Tryz.zeroValue240
  t39 := Tryz.underlying241
  a39 := Tryz.isAgg241
  z39 := Tryz.sizeOf241
  v39 := Tryz.zeroValue241
  t45 := Tryz.underlying361
  a45 := Tryz.isAgg361
  z45 := Tryz.sizeOf361
  v45 := Tryz.zeroValue361
  t46 := Tryz.underlying362
  a46 := Tryz.isAgg362
  z46 := Tryz.sizeOf362
  v46 := Tryz.zeroValue362
  t50 := Tryz.underlying123
  a50 := Tryz.isAgg123
  z50 := Tryz.sizeOf123
  v50 := Tryz.zeroValue123
  t53 := Tryz.underlying368
  a53 := Tryz.isAgg368
  z53 := Tryz.sizeOf368
  v53 := Tryz.zeroValue368
  t55 := Tryz.underlying370
  a55 := Tryz.isAgg370
  z55 := Tryz.sizeOf370
  v55 := Tryz.zeroValue370
  t66 := Tryz.underlying412
  a66 := Tryz.isAgg412
  z66 := Tryz.sizeOf412
  v66 := Tryz.zeroValue412
  t70 := Tryz.underlying416
  a70 := Tryz.isAgg416
  z70 := Tryz.sizeOf416
  v70 := Tryz.zeroValue416
  t76 := Tryz.underlying452
  a76 := Tryz.isAgg452
  z76 := Tryz.sizeOf452
  v76 := Tryz.zeroValue452
  t77 := Tryz.underlying300
  a77 := Tryz.isAgg300
  z77 := Tryz.sizeOf300
  v77 := Tryz.zeroValue300 }
def Tryz.sortSpan_ren : Go.Shelf.Ren := ⟨fun | 6 => 205 | 15 => 212 | 14 => 266 | 28 => 278 | 29 => 279 | 20 => 322 | 21 => 323 | 22 => 324 | 23 => 325 | 24 => 326 | 25 => 327 | 26 => 328 | 27 => 329 | 46 => 369 | 47 => 334 | 48 => 335 | 49 => 370 | 50 => 371 | 57 => 384 | n => n, fun | 22 => 137 | 24 => 222 | 25 => 299 | 3 => 3 | 39 => 241 | 0 => 0 | 53 => 368 | 55 => 370 | 4 => 4 | 46 => 362 | 45 => 361 | 50 => 123 | 5 => 5 | 9 => 9 | 66 => 412 | 70 => 416 | 76 => 452 | 77 => 300 | n => n, fun | n => n⟩
theorem Tryz.sortSpan : Go.Proofs.SlLaysF0.n6 Tryz.prog Tryz.sortSpan_ren := {
  mixed := by kernel_rfl
  f6 := ⟨Tryz.f205.name, by decide, Tryz.func205.trans (congrArg some (by kernel_rfl))⟩
  f14 := ⟨Tryz.f266.name, by decide, Tryz.func266.trans (congrArg some (by kernel_rfl))⟩
  f15 := Tryz.func212.trans (congrArg some (by kernel_rfl))
  f20 := ⟨Tryz.f322.name, by decide, Tryz.func322.trans (congrArg some (by kernel_rfl))⟩
  f21 := ⟨Tryz.f323.name, by decide, Tryz.func323.trans (congrArg some (by kernel_rfl))⟩
  f22 := ⟨Tryz.f324.name, by decide, Tryz.func324.trans (congrArg some (by kernel_rfl))⟩
  f23 := ⟨Tryz.f325.name, by decide, Tryz.func325.trans (congrArg some (by kernel_rfl))⟩
  f24 := ⟨Tryz.f326.name, by decide, Tryz.func326.trans (congrArg some (by kernel_rfl))⟩
  f25 := ⟨Tryz.f327.name, by decide, Tryz.func327.trans (congrArg some (by kernel_rfl))⟩
  f26 := ⟨Tryz.f328.name, by decide, Tryz.func328.trans (congrArg some (by kernel_rfl))⟩
  f27 := ⟨Tryz.f329.name, by decide, Tryz.func329.trans (congrArg some (by kernel_rfl))⟩
  f28 := Tryz.func278.trans (congrArg some (by kernel_rfl))
  f29 := Tryz.func279.trans (congrArg some (by kernel_rfl))
  f46 := ⟨Tryz.f369.name, by decide, Tryz.func369.trans (congrArg some (by kernel_rfl))⟩
  f47 := Tryz.func334.trans (congrArg some (by kernel_rfl))
  f48 := Tryz.func335.trans (congrArg some (by kernel_rfl))
  f49 := ⟨Tryz.f370.name, by decide, Tryz.func370.trans (congrArg some (by kernel_rfl))⟩
  f50 := ⟨Tryz.f371.name, by decide, Tryz.func371.trans (congrArg some (by kernel_rfl))⟩
  f57 := ⟨Tryz.f384.name, by decide, Tryz.func384.trans (congrArg some (by kernel_rfl))⟩
  t0 := Tryz.underlying0
  a0 := Tryz.isAgg0
  z0 := Tryz.sizeOf0
  v0 := Tryz.zeroValue0
  t3 := Tryz.underlying3
  a3 := Tryz.isAgg3
  z3 := Tryz.sizeOf3
  v3 := Tryz.zeroValue3
  t4 := Tryz.underlying4
  a4 := Tryz.isAgg4
  z4 := Tryz.sizeOf4
  v4 := Tryz.zeroValue4
  t5 := Tryz.underlying5
  a5 := Tryz.isAgg5
  z5 := Tryz.sizeOf5
  v5 := Tryz.zeroValue5
  t9 := Tryz.underlying9
  a9 := Tryz.isAgg9
  z9 := Tryz.sizeOf9
  v9 := Tryz.zeroValue9
  t22 := Tryz.underlying137
  a22 := Tryz.isAgg137
  z22 := Tryz.sizeOf137
  v22 := Tryz.zeroValue137
  t25 := Tryz.underlying299
  a25 := Tryz.isAgg299
  z25 := Tryz.sizeOf299
  v25 := Tryz.zeroValue299
  t39 := Tryz.underlying241
  a39 := Tryz.isAgg241
  z39 := Tryz.sizeOf241
  v39 := Tryz.zeroValue241
  t45 := Tryz.underlying361
  a45 := Tryz.isAgg361
  z45 := Tryz.sizeOf361
  v45 := Tryz.zeroValue361
  t46 := Tryz.underlying362
  a46 := Tryz.isAgg362
  z46 := Tryz.sizeOf362
  v46 := Tryz.zeroValue362
  t50 := Tryz.underlying123
  a50 := Tryz.isAgg123
  z50 := Tryz.sizeOf123
  v50 := Tryz.zeroValue123
  t53 := Tryz.underlying368
  a53 := Tryz.isAgg368
  z53 := Tryz.sizeOf368
  v53 := Tryz.zeroValue368
  t55 := Tryz.underlying370
  a55 := Tryz.isAgg370
  z55 := Tryz.sizeOf370
  v55 := Tryz.zeroValue370
  t66 := Tryz.underlying412
  a66 := Tryz.isAgg412
  z66 := Tryz.sizeOf412
  v66 := Tryz.zeroValue412
  t70 := Tryz.underlying416
  a70 := Tryz.isAgg416
  z70 := Tryz.sizeOf416
  v70 := Tryz.zeroValue416
  t76 := Tryz.underlying452
  a76 := Tryz.isAgg452
  z76 := Tryz.sizeOf452
  v76 := Tryz.zeroValue452
  t77 := Tryz.underlying300
  a77 := Tryz.isAgg300
  z77 := Tryz.sizeOf300
  v77 := Tryz.zeroValue300 }
end Go.Proofs.YtoihpnpfnechdaaGreatDoor
namespace Go.Proofs.YtoihpnpfnechdaaGreatDoor
open Go Go.Shelf Go.RowKit
def shr : Shelf.Ren :=
{ f := fun x => match x with
    | 99 => 296
    | 105 => 226
    | 129 => 279
    | 138 => 231
    | 143 => 232
    | 144 => 305
    | 145 => 177
    | 146 => 96
    | 156 => 171
    | 157 => 178
    | 165 => 223
    | 166 => 88
    | 169 => 90
    | 170 => 89
    | 171 => 93
    | 172 => 360
    | 195 => 299
    | 197 => 300
    | 199 => 235
    | 205 => 393
    | 206 => 350
    | 212 => 295
    | 217 => 352
    | 218 => 301
    | 219 => 302
    | 220 => 233
    | 221 => 176
    | 224 => 354
    | 225 => 353
    | 229 => 234
    | 240 => 172
    | 241 => 290
    | 243 => 173
    | 244 => 381
    | 245 => 382
    | 246 => 225
    | 247 => 385
    | 260 => 351
    | 261 => 303
    | 263 => 348
    | 264 => 349
    | 266 => 379
    | 267 => 355
    | 268 => 230
    | 276 => 224
    | 277 => 343
    | 279 => 386
    | 280 => 387
    | 281 => 388
    | 282 => 389
    | 283 => 291
    | 284 => 292
    | 285 => 293
    | 286 => 294
    | 287 => 391
    | 311 => 356
    | 312 => 357
    | 314 => 380
    | 316 => 392
    | 317 => 344
    | 318 => 345
    | 319 => 346
    | 320 => 347
    | 321 => 394
    | 322 => 395
    | 337 => 377
    | 338 => 378
    | n => n
  t := fun x => match x with
    | 0 => 0
    | 2 => 2
    | 3 => 3
    | 4 => 4
    | 5 => 5
    | 9 => 9
    | 20 => 20
    | 21 => 21
    | 31 => 64
    | 37 => 175
    | 40 => 322
    | 46 => 241
    | 49 => 432
    | 51 => 368
    | 53 => 370
    | 59 => 273
    | 70 => 174
    | 72 => 177
    | 75 => 183
    | 76 => 184
    | 80 => 186
    | 85 => 466
    | 105 => 387
    | 109 => 382
    | 119 => 320
    | 127 => 266
    | 138 => 456
    | 139 => 457
    | 141 => 394
    | 143 => 478
    | 145 => 480
    | 146 => 424
    | 148 => 426
    | 152 => 390
    | 154 => 392
    | 164 => 313
    | 167 => 465
    | 168 => 468
    | 171 => 378
    | 173 => 380
    | 175 => 471
    | 193 => 428
    | 194 => 429
    | 196 => 431
    | 198 => 434
    | 201 => 437
    | 210 => 475
    | 212 => 422
    | 213 => 423
    | 226 => 459
    | 227 => 460
    | 232 => 463
    | 233 => 464
    | n => n
  g := fun x => match x with
    | 0 => 0
    | 1 => 3
    | 3 => 4
    | 4 => 5
    | 6 => 1
    | 15 => 8
    | 16 => 9
    | 17 => 2
    | 18 => 6
    | 19 => 7
    | n => n }
set_option maxRecDepth 100000 in
theorem lays_n146 : Lays.n146 Tryz.prog shr :=
{ mixed := Eq.refl true,
  f138 := Eq.trans Tryz.func231 (congrArg some (Eq.refl (Body.n138 shr))),
  f143 := Eq.trans Tryz.func232 (congrArg some (Eq.refl (Body.n143 shr))),
  f146 := Eq.trans Tryz.func96 (congrArg some (Eq.refl (Body.n146 shr))),
  f195 := Eq.trans Tryz.func299 (congrArg some (Eq.refl (Body.n195 shr))),
  f197 := Eq.trans Tryz.func300 (congrArg some (Eq.refl (Body.n197 shr))),
  f217 := Eq.trans Tryz.func352 (congrArg some (Eq.refl (Body.n217 shr))),
  f218 := Eq.trans Tryz.func301 (congrArg some (Eq.refl (Body.n218 shr))),
  f219 := Eq.trans Tryz.func302 (congrArg some (Eq.refl (Body.n219 shr))),
  f221 := Eq.trans Tryz.func176 (congrArg some (Eq.refl (Body.n221 shr))),
  f224 := Eq.trans Tryz.func354 (congrArg some (Eq.refl (Body.n224 shr))),
  f225 := Eq.trans Tryz.func353 (congrArg some (Eq.refl (Body.n225 shr))),
  f260 := Eq.trans Tryz.func351 (congrArg some (Eq.refl (Body.n260 shr))),
  f266 := Eq.trans Tryz.func379 (congrArg some (Eq.refl (Body.n266 shr))),
  f267 := Eq.trans Tryz.func355 (congrArg some (Eq.refl (Body.n267 shr))),
  f268 := Eq.trans Tryz.func230 (congrArg some (Eq.refl (Body.n268 shr))),
  f314 := Eq.trans Tryz.func380 (congrArg some (Eq.refl (Body.n314 shr))),
  t0 := Tryz.underlying0,
  a0 := Tryz.isAgg0,
  z0 := Tryz.sizeOf0,
  v0 := Tryz.zeroValue0,
  t3 := Tryz.underlying3,
  a3 := Tryz.isAgg3,
  z3 := Tryz.sizeOf3,
  v3 := Tryz.zeroValue3,
  t4 := Tryz.underlying4,
  a4 := Tryz.isAgg4,
  z4 := Tryz.sizeOf4,
  v4 := Tryz.zeroValue4,
  t5 := Tryz.underlying5,
  a5 := Tryz.isAgg5,
  z5 := Tryz.sizeOf5,
  v5 := Tryz.zeroValue5,
  t9 := Tryz.underlying9,
  a9 := Tryz.isAgg9,
  z9 := Tryz.sizeOf9,
  v9 := Tryz.zeroValue9,
  t21 := Tryz.underlying21,
  a21 := Tryz.isAgg21,
  z21 := Tryz.sizeOf21,
  v21 := Tryz.zeroValue21,
  t31 := Tryz.underlying64,
  a31 := Tryz.isAgg64,
  z31 := Tryz.sizeOf64,
  v31 := Tryz.zeroValue64,
  t46 := Tryz.underlying241,
  a46 := Tryz.isAgg241,
  z46 := Tryz.sizeOf241,
  v46 := Tryz.zeroValue241,
  t51 := Tryz.underlying368,
  a51 := Tryz.isAgg368,
  z51 := Tryz.sizeOf368,
  v51 := Tryz.zeroValue368,
  t105 := Tryz.underlying387,
  a105 := Tryz.isAgg387,
  z105 := Tryz.sizeOf387,
  v105 := Tryz.zeroValue387,
  t119 := Tryz.underlying320,
  a119 := Tryz.isAgg320,
  z119 := Tryz.sizeOf320,
  t138 := Tryz.underlying456,
  a138 := Tryz.isAgg456,
  z138 := Tryz.sizeOf456,
  v138 := Tryz.zeroValue456,
  t139 := Tryz.underlying457,
  a139 := Tryz.isAgg457,
  z139 := Tryz.sizeOf457,
  v139 := Tryz.zeroValue457,
  t146 := Tryz.underlying424,
  a146 := Tryz.isAgg424,
  z146 := Tryz.sizeOf424,
  v146 := Tryz.zeroValue424,
  g1 := by kernel_rfl,
  g3 := by kernel_rfl,
  g4 := by kernel_rfl }
set_option maxRecDepth 100000 in
theorem lays_n145 : Lays.n145 Tryz.prog shr :=
{ mixed := Eq.refl true,
  f145 := Eq.trans Tryz.func177 (congrArg some (Eq.refl (Body.n145 shr))),
  f217 := Eq.trans Tryz.func352 (congrArg some (Eq.refl (Body.n217 shr))),
  f219 := Eq.trans Tryz.func302 (congrArg some (Eq.refl (Body.n219 shr))),
  f220 := Eq.trans Tryz.func233 (congrArg some (Eq.refl (Body.n220 shr))),
  f224 := Eq.trans Tryz.func354 (congrArg some (Eq.refl (Body.n224 shr))),
  f225 := Eq.trans Tryz.func353 (congrArg some (Eq.refl (Body.n225 shr))),
  f266 := Eq.trans Tryz.func379 (congrArg some (Eq.refl (Body.n266 shr))),
  f267 := Eq.trans Tryz.func355 (congrArg some (Eq.refl (Body.n267 shr))),
  f314 := Eq.trans Tryz.func380 (congrArg some (Eq.refl (Body.n314 shr))),
  t3 := Tryz.underlying3,
  a3 := Tryz.isAgg3,
  z3 := Tryz.sizeOf3,
  v3 := Tryz.zeroValue3,
  t4 := Tryz.underlying4,
  a4 := Tryz.isAgg4,
  z4 := Tryz.sizeOf4,
  v4 := Tryz.zeroValue4,
  t5 := Tryz.underlying5,
  a5 := Tryz.isAgg5,
  z5 := Tryz.sizeOf5,
  v5 := Tryz.zeroValue5,
  t9 := Tryz.underlying9,
  a9 := Tryz.isAgg9,
  z9 := Tryz.sizeOf9,
  v9 := Tryz.zeroValue9,
  t46 := Tryz.underlying241,
  a46 := Tryz.isAgg241,
  z46 := Tryz.sizeOf241,
  v46 := Tryz.zeroValue241,
  t51 := Tryz.underlying368,
  a51 := Tryz.isAgg368,
  z51 := Tryz.sizeOf368,
  v51 := Tryz.zeroValue368,
  t59 := Tryz.underlying273,
  a59 := Tryz.isAgg273,
  z59 := Tryz.sizeOf273,
  v59 := Tryz.zeroValue273,
  t146 := Tryz.underlying424,
  a146 := Tryz.isAgg424,
  z146 := Tryz.sizeOf424,
  v146 := Tryz.zeroValue424,
  g1 := by kernel_rfl }
set_option maxRecDepth 100000 in
theorem lays_n157 : Lays.n157 Tryz.prog shr :=
{ mixed := Eq.refl true,
  f157 := Eq.trans Tryz.func178 (congrArg some (Eq.refl (Body.n157 shr))),
  f199 := Eq.trans Tryz.func235 (congrArg some (Eq.refl (Body.n199 shr))),
  f229 := Eq.trans Tryz.func234 (congrArg some (Eq.refl (Body.n229 shr))),
  f261 := Eq.trans Tryz.func303 (congrArg some (Eq.refl (Body.n261 shr))),
  f311 := Eq.trans Tryz.func356 (congrArg some (Eq.refl (Body.n311 shr))),
  f312 := Eq.trans Tryz.func357 (congrArg some (Eq.refl (Body.n312 shr))),
  t0 := Tryz.underlying0,
  a0 := Tryz.isAgg0,
  z0 := Tryz.sizeOf0,
  v0 := Tryz.zeroValue0,
  t3 := Tryz.underlying3,
  a3 := Tryz.isAgg3,
  z3 := Tryz.sizeOf3,
  v3 := Tryz.zeroValue3,
  t4 := Tryz.underlying4,
  a4 := Tryz.isAgg4,
  z4 := Tryz.sizeOf4,
  v4 := Tryz.zeroValue4,
  t5 := Tryz.underlying5,
  a5 := Tryz.isAgg5,
  z5 := Tryz.sizeOf5,
  v5 := Tryz.zeroValue5,
  t9 := Tryz.underlying9,
  a9 := Tryz.isAgg9,
  z9 := Tryz.sizeOf9,
  v9 := Tryz.zeroValue9,
  t21 := Tryz.underlying21,
  a21 := Tryz.isAgg21,
  z21 := Tryz.sizeOf21,
  v21 := Tryz.zeroValue21,
  t31 := Tryz.underlying64,
  a31 := Tryz.isAgg64,
  z31 := Tryz.sizeOf64,
  v31 := Tryz.zeroValue64,
  t40 := Tryz.underlying322,
  a40 := Tryz.isAgg322,
  z40 := Tryz.sizeOf322,
  v40 := Tryz.zeroValue322,
  t46 := Tryz.underlying241,
  a46 := Tryz.isAgg241,
  z46 := Tryz.sizeOf241,
  v46 := Tryz.zeroValue241,
  t49 := Tryz.underlying432,
  a49 := Tryz.isAgg432,
  z49 := Tryz.sizeOf432,
  v49 := Tryz.zeroValue432,
  t51 := Tryz.underlying368,
  a51 := Tryz.isAgg368,
  z51 := Tryz.sizeOf368,
  v51 := Tryz.zeroValue368,
  t119 := Tryz.underlying320,
  a119 := Tryz.isAgg320,
  z119 := Tryz.sizeOf320,
  t141 := Tryz.underlying394,
  a141 := Tryz.isAgg394,
  z141 := Tryz.sizeOf394,
  v141 := Tryz.zeroValue394,
  t152 := Tryz.underlying390,
  a152 := Tryz.isAgg390,
  z152 := Tryz.sizeOf390,
  v152 := Tryz.zeroValue390,
  t154 := Tryz.underlying392,
  a154 := Tryz.isAgg392,
  z154 := Tryz.sizeOf392,
  v154 := Tryz.zeroValue392,
  t193 := Tryz.underlying428,
  a193 := Tryz.isAgg428,
  z193 := Tryz.sizeOf428,
  v193 := Tryz.zeroValue428,
  t194 := Tryz.underlying429,
  a194 := Tryz.isAgg429,
  z194 := Tryz.sizeOf429,
  v194 := Tryz.zeroValue429,
  t196 := Tryz.underlying431,
  a196 := Tryz.isAgg431,
  z196 := Tryz.sizeOf431,
  v196 := Tryz.zeroValue431,
  t198 := Tryz.underlying434,
  a198 := Tryz.isAgg434,
  z198 := Tryz.sizeOf434,
  v198 := Tryz.zeroValue434,
  t201 := Tryz.underlying437,
  a201 := Tryz.isAgg437,
  z201 := Tryz.sizeOf437,
  v201 := Tryz.zeroValue437,
  t226 := Tryz.underlying459,
  a226 := Tryz.isAgg459,
  z226 := Tryz.sizeOf459,
  v226 := Tryz.zeroValue459,
  t227 := Tryz.underlying460,
  a227 := Tryz.isAgg460,
  z227 := Tryz.sizeOf460,
  v227 := Tryz.zeroValue460,
  g0 := by kernel_rfl,
  g6 := by kernel_rfl }
set_option maxRecDepth 100000 in
theorem lays_n144 : Lays.n144 Tryz.prog shr :=
{ mixed := Eq.refl true,
  f143 := Eq.trans Tryz.func232 (congrArg some (Eq.refl (Body.n143 shr))),
  f144 := Eq.trans Tryz.func305 (congrArg some (Eq.refl (Body.n144 shr))),
  f217 := Eq.trans Tryz.func352 (congrArg some (Eq.refl (Body.n217 shr))),
  f219 := Eq.trans Tryz.func302 (congrArg some (Eq.refl (Body.n219 shr))),
  f224 := Eq.trans Tryz.func354 (congrArg some (Eq.refl (Body.n224 shr))),
  f225 := Eq.trans Tryz.func353 (congrArg some (Eq.refl (Body.n225 shr))),
  f266 := Eq.trans Tryz.func379 (congrArg some (Eq.refl (Body.n266 shr))),
  f267 := Eq.trans Tryz.func355 (congrArg some (Eq.refl (Body.n267 shr))),
  f314 := Eq.trans Tryz.func380 (congrArg some (Eq.refl (Body.n314 shr))),
  t3 := Tryz.underlying3,
  a3 := Tryz.isAgg3,
  z3 := Tryz.sizeOf3,
  v3 := Tryz.zeroValue3,
  t4 := Tryz.underlying4,
  a4 := Tryz.isAgg4,
  z4 := Tryz.sizeOf4,
  v4 := Tryz.zeroValue4,
  t5 := Tryz.underlying5,
  a5 := Tryz.isAgg5,
  z5 := Tryz.sizeOf5,
  v5 := Tryz.zeroValue5,
  t9 := Tryz.underlying9,
  a9 := Tryz.isAgg9,
  z9 := Tryz.sizeOf9,
  v9 := Tryz.zeroValue9,
  t46 := Tryz.underlying241,
  a46 := Tryz.isAgg241,
  z46 := Tryz.sizeOf241,
  v46 := Tryz.zeroValue241,
  t51 := Tryz.underlying368,
  a51 := Tryz.isAgg368,
  z51 := Tryz.sizeOf368,
  v51 := Tryz.zeroValue368,
  t146 := Tryz.underlying424,
  a146 := Tryz.isAgg424,
  z146 := Tryz.sizeOf424,
  v146 := Tryz.zeroValue424,
  g1 := by kernel_rfl }
set_option maxRecDepth 100000 in
theorem lays_n105 : Lays.n105 Tryz.prog shr :=
{ mixed := Eq.refl true,
  f99 := Eq.trans Tryz.func296 (congrArg some (Eq.refl (Body.n99 shr))),
  f105 := Eq.trans Tryz.func226 (congrArg some (Eq.refl (Body.n105 shr))),
  f165 := Eq.trans Tryz.func223 (congrArg some (Eq.refl (Body.n165 shr))),
  f166 := Eq.trans Tryz.func88 (congrArg some (Eq.refl (Body.n166 shr))),
  f169 := Eq.trans Tryz.func90 (congrArg some (Eq.refl (Body.n169 shr))),
  f170 := Eq.trans Tryz.func89 (congrArg some (Eq.refl (Body.n170 shr))),
  f206 := Eq.trans Tryz.func350 (congrArg some (Eq.refl (Body.n206 shr))),
  f212 := Eq.trans Tryz.func295 (congrArg some (Eq.refl (Body.n212 shr))),
  f240 := Eq.trans Tryz.func172 (congrArg some (Eq.refl (Body.n240 shr))),
  f241 := Eq.trans Tryz.func290 (congrArg some (Eq.refl (Body.n241 shr))),
  f263 := Eq.trans Tryz.func348 (congrArg some (Eq.refl (Body.n263 shr))),
  f264 := Eq.trans Tryz.func349 (congrArg some (Eq.refl (Body.n264 shr))),
  f276 := Eq.trans Tryz.func224 (congrArg some (Eq.refl (Body.n276 shr))),
  f277 := Eq.trans Tryz.func343 (congrArg some (Eq.refl (Body.n277 shr))),
  t0 := Tryz.underlying0,
  a0 := Tryz.isAgg0,
  z0 := Tryz.sizeOf0,
  v0 := Tryz.zeroValue0,
  t3 := Tryz.underlying3,
  a3 := Tryz.isAgg3,
  z3 := Tryz.sizeOf3,
  v3 := Tryz.zeroValue3,
  t4 := Tryz.underlying4,
  a4 := Tryz.isAgg4,
  z4 := Tryz.sizeOf4,
  v4 := Tryz.zeroValue4,
  t5 := Tryz.underlying5,
  a5 := Tryz.isAgg5,
  z5 := Tryz.sizeOf5,
  v5 := Tryz.zeroValue5,
  t9 := Tryz.underlying9,
  a9 := Tryz.isAgg9,
  z9 := Tryz.sizeOf9,
  v9 := Tryz.zeroValue9,
  t20 := Tryz.underlying20,
  a20 := Tryz.isAgg20,
  z20 := Tryz.sizeOf20,
  v20 := Tryz.zeroValue20,
  t37 := Tryz.underlying175,
  a37 := Tryz.isAgg175,
  z37 := Tryz.sizeOf175,
  v37 := Tryz.zeroValue175,
  t46 := Tryz.underlying241,
  a46 := Tryz.isAgg241,
  z46 := Tryz.sizeOf241,
  v46 := Tryz.zeroValue241,
  t51 := Tryz.underlying368,
  a51 := Tryz.isAgg368,
  z51 := Tryz.sizeOf368,
  v51 := Tryz.zeroValue368,
  t53 := Tryz.underlying370,
  a53 := Tryz.isAgg370,
  z53 := Tryz.sizeOf370,
  v53 := Tryz.zeroValue370,
  t70 := Tryz.underlying174,
  a70 := Tryz.isAgg174,
  z70 := Tryz.sizeOf174,
  v70 := Tryz.zeroValue174,
  t72 := Tryz.underlying177,
  a72 := Tryz.isAgg177,
  z72 := Tryz.sizeOf177,
  v72 := Tryz.zeroValue177,
  t75 := Tryz.underlying183,
  a75 := Tryz.isAgg183,
  z75 := Tryz.sizeOf183,
  v75 := Tryz.zeroValue183,
  t76 := Tryz.underlying184,
  a76 := Tryz.isAgg184,
  z76 := Tryz.sizeOf184,
  v76 := Tryz.zeroValue184,
  t109 := Tryz.underlying382,
  a109 := Tryz.isAgg382,
  z109 := Tryz.sizeOf382,
  v109 := Tryz.zeroValue382,
  t127 := Tryz.underlying266,
  a127 := Tryz.isAgg266,
  z127 := Tryz.sizeOf266,
  v127 := Tryz.zeroValue266,
  t146 := Tryz.underlying424,
  a146 := Tryz.isAgg424,
  z146 := Tryz.sizeOf424,
  v146 := Tryz.zeroValue424,
  t148 := Tryz.underlying426,
  a148 := Tryz.isAgg426,
  z148 := Tryz.sizeOf426,
  v148 := Tryz.zeroValue426,
  t164 := Tryz.underlying313,
  a164 := Tryz.isAgg313,
  z164 := Tryz.sizeOf313,
  v164 := Tryz.zeroValue313 }
set_option maxRecDepth 100000 in
theorem lays_n156 : Lays.n156 Tryz.prog shr :=
{ mixed := Eq.refl true,
  f156 := Eq.trans Tryz.func171 (congrArg some (Eq.refl (Body.n156 shr))),
  f165 := Eq.trans Tryz.func223 (congrArg some (Eq.refl (Body.n165 shr))),
  f166 := Eq.trans Tryz.func88 (congrArg some (Eq.refl (Body.n166 shr))),
  f169 := Eq.trans Tryz.func90 (congrArg some (Eq.refl (Body.n169 shr))),
  f240 := Eq.trans Tryz.func172 (congrArg some (Eq.refl (Body.n240 shr))),
  f241 := Eq.trans Tryz.func290 (congrArg some (Eq.refl (Body.n241 shr))),
  f276 := Eq.trans Tryz.func224 (congrArg some (Eq.refl (Body.n276 shr))),
  f277 := Eq.trans Tryz.func343 (congrArg some (Eq.refl (Body.n277 shr))),
  t0 := Tryz.underlying0,
  a0 := Tryz.isAgg0,
  z0 := Tryz.sizeOf0,
  v0 := Tryz.zeroValue0,
  t3 := Tryz.underlying3,
  a3 := Tryz.isAgg3,
  z3 := Tryz.sizeOf3,
  v3 := Tryz.zeroValue3,
  t4 := Tryz.underlying4,
  a4 := Tryz.isAgg4,
  z4 := Tryz.sizeOf4,
  v4 := Tryz.zeroValue4,
  t9 := Tryz.underlying9,
  a9 := Tryz.isAgg9,
  z9 := Tryz.sizeOf9,
  v9 := Tryz.zeroValue9,
  t20 := Tryz.underlying20,
  a20 := Tryz.isAgg20,
  z20 := Tryz.sizeOf20,
  v20 := Tryz.zeroValue20,
  t31 := Tryz.underlying64,
  a31 := Tryz.isAgg64,
  z31 := Tryz.sizeOf64,
  v31 := Tryz.zeroValue64,
  t37 := Tryz.underlying175,
  a37 := Tryz.isAgg175,
  z37 := Tryz.sizeOf175,
  v37 := Tryz.zeroValue175,
  t70 := Tryz.underlying174,
  a70 := Tryz.isAgg174,
  z70 := Tryz.sizeOf174,
  v70 := Tryz.zeroValue174,
  t72 := Tryz.underlying177,
  a72 := Tryz.isAgg177,
  z72 := Tryz.sizeOf177,
  v72 := Tryz.zeroValue177,
  t75 := Tryz.underlying183,
  a75 := Tryz.isAgg183,
  z75 := Tryz.sizeOf183,
  v75 := Tryz.zeroValue183,
  t76 := Tryz.underlying184,
  a76 := Tryz.isAgg184,
  z76 := Tryz.sizeOf184,
  v76 := Tryz.zeroValue184,
  t127 := Tryz.underlying266,
  a127 := Tryz.isAgg266,
  z127 := Tryz.sizeOf266,
  v127 := Tryz.zeroValue266,
  t164 := Tryz.underlying313,
  a164 := Tryz.isAgg313,
  z164 := Tryz.sizeOf313,
  v164 := Tryz.zeroValue313 }
set_option maxRecDepth 100000 in
theorem laysM_n171 : LaysM.n171 Tryz.prog shr :=
{ mixed := Eq.refl true,
  f129 := Eq.trans Tryz.func279 (congrArg some (Eq.refl (Body.n129 shr))),
  f171 := Eq.trans Tryz.func93 (congrArg some (Eq.refl (Body.n171 shr))),
  f243 := Eq.trans Tryz.func173 (congrArg some (Eq.refl (Body.n243 shr))),
  f246 := Eq.trans Tryz.func225 (congrArg some (Eq.refl (Body.n246 shr))),
  f283 := Eq.trans Tryz.func291 (congrArg some (Eq.refl (Body.n283 shr))),
  f284 := Eq.trans Tryz.func292 (congrArg some (Eq.refl (Body.n284 shr))),
  f285 := Eq.trans Tryz.func293 (congrArg some (Eq.refl (Body.n285 shr))),
  f286 := Eq.trans Tryz.func294 (congrArg some (Eq.refl (Body.n286 shr))),
  f317 := Eq.trans Tryz.func344 (congrArg some (Eq.refl (Body.n317 shr))),
  f318 := Eq.trans Tryz.func345 (congrArg some (Eq.refl (Body.n318 shr))),
  f319 := Eq.trans Tryz.func346 (congrArg some (Eq.refl (Body.n319 shr))),
  f320 := Eq.trans Tryz.func347 (congrArg some (Eq.refl (Body.n320 shr))),
  f337 := Eq.trans Tryz.func377 (congrArg some (Eq.refl (Body.n337 shr))),
  f338 := Eq.trans Tryz.func378 (congrArg some (Eq.refl (Body.n338 shr))),
  t0 := Tryz.underlying0,
  a0 := Tryz.isAgg0,
  z0 := Tryz.sizeOf0,
  v0 := Tryz.zeroValue0,
  t2 := Tryz.underlying2,
  a2 := Tryz.isAgg2,
  z2 := Tryz.sizeOf2,
  v2 := Tryz.zeroValue2,
  t3 := Tryz.underlying3,
  a3 := Tryz.isAgg3,
  z3 := Tryz.sizeOf3,
  v3 := Tryz.zeroValue3,
  t4 := Tryz.underlying4,
  a4 := Tryz.isAgg4,
  z4 := Tryz.sizeOf4,
  v4 := Tryz.zeroValue4,
  t5 := Tryz.underlying5,
  a5 := Tryz.isAgg5,
  z5 := Tryz.sizeOf5,
  v5 := Tryz.zeroValue5,
  t9 := Tryz.underlying9,
  a9 := Tryz.isAgg9,
  z9 := Tryz.sizeOf9,
  v9 := Tryz.zeroValue9,
  t20 := Tryz.underlying20,
  a20 := Tryz.isAgg20,
  z20 := Tryz.sizeOf20,
  v20 := Tryz.zeroValue20,
  t37 := Tryz.underlying175,
  a37 := Tryz.isAgg175,
  z37 := Tryz.sizeOf175,
  v37 := Tryz.zeroValue175,
  t46 := Tryz.underlying241,
  a46 := Tryz.isAgg241,
  z46 := Tryz.sizeOf241,
  v46 := Tryz.zeroValue241,
  t51 := Tryz.underlying368,
  a51 := Tryz.isAgg368,
  z51 := Tryz.sizeOf368,
  v51 := Tryz.zeroValue368,
  t53 := Tryz.underlying370,
  a53 := Tryz.isAgg370,
  z53 := Tryz.sizeOf370,
  v53 := Tryz.zeroValue370,
  t171 := Tryz.underlying378,
  a171 := Tryz.isAgg378,
  z171 := Tryz.sizeOf378,
  v171 := Tryz.zeroValue378,
  t173 := Tryz.underlying380,
  a173 := Tryz.isAgg380,
  z173 := Tryz.sizeOf380,
  v173 := Tryz.zeroValue380,
  t212 := Tryz.underlying422,
  a212 := Tryz.isAgg422,
  z212 := Tryz.sizeOf422,
  v212 := Tryz.zeroValue422,
  t213 := Tryz.underlying423,
  a213 := Tryz.isAgg423,
  z213 := Tryz.sizeOf423,
  t232 := Tryz.underlying463,
  a232 := Tryz.isAgg463,
  z232 := Tryz.sizeOf463,
  v232 := Tryz.zeroValue463,
  t233 := Tryz.underlying464,
  a233 := Tryz.isAgg464,
  z233 := Tryz.sizeOf464,
  v233 := Tryz.zeroValue464,
  g17 := by kernel_rfl,
  g18 := by kernel_rfl,
  g19 := by kernel_rfl,
  i0 := by kernel_rfl,
  i2 := by kernel_rfl,
  i3 := by kernel_rfl,
  i4 := by kernel_rfl,
  i5 := by kernel_rfl,
  i9 := by kernel_rfl,
  i20 := by kernel_rfl,
  i37 := by kernel_rfl,
  i46 := by kernel_rfl,
  i51 := by kernel_rfl,
  i53 := by kernel_rfl,
  i171 := by kernel_rfl,
  i173 := by kernel_rfl,
  i212 := by kernel_rfl,
  i232 := by kernel_rfl,
  i233 := by kernel_rfl,
  m17 := by kernel_rfl,
  m18 := by kernel_rfl,
  m19 := by kernel_rfl }
set_option maxRecDepth 100000 in
theorem lays_n172 : Lays.n172 Tryz.prog shr :=
{ mixed := Eq.refl true,
  f129 := Eq.trans Tryz.func279 (congrArg some (Eq.refl (Body.n129 shr))),
  f171 := Eq.trans Tryz.func93 (congrArg some (Eq.refl (Body.n171 shr))),
  f172 := Eq.trans Tryz.func360 (congrArg some (Eq.refl (Body.n172 shr))),
  f205 := Eq.trans Tryz.func393 (congrArg some (Eq.refl (Body.n205 shr))),
  f243 := Eq.trans Tryz.func173 (congrArg some (Eq.refl (Body.n243 shr))),
  f244 := Eq.trans Tryz.func381 (congrArg some (Eq.refl (Body.n244 shr))),
  f245 := Eq.trans Tryz.func382 (congrArg some (Eq.refl (Body.n245 shr))),
  f246 := Eq.trans Tryz.func225 (congrArg some (Eq.refl (Body.n246 shr))),
  f247 := Eq.trans Tryz.func385 (congrArg some (Eq.refl (Body.n247 shr))),
  f279 := Eq.trans Tryz.func386 (congrArg some (Eq.refl (Body.n279 shr))),
  f280 := Eq.trans Tryz.func387 (congrArg some (Eq.refl (Body.n280 shr))),
  f281 := Eq.trans Tryz.func388 (congrArg some (Eq.refl (Body.n281 shr))),
  f282 := Eq.trans Tryz.func389 (congrArg some (Eq.refl (Body.n282 shr))),
  f283 := Eq.trans Tryz.func291 (congrArg some (Eq.refl (Body.n283 shr))),
  f284 := Eq.trans Tryz.func292 (congrArg some (Eq.refl (Body.n284 shr))),
  f285 := Eq.trans Tryz.func293 (congrArg some (Eq.refl (Body.n285 shr))),
  f286 := Eq.trans Tryz.func294 (congrArg some (Eq.refl (Body.n286 shr))),
  f287 := Eq.trans Tryz.func391 (congrArg some (Eq.refl (Body.n287 shr))),
  f316 := Eq.trans Tryz.func392 (congrArg some (Eq.refl (Body.n316 shr))),
  f317 := Eq.trans Tryz.func344 (congrArg some (Eq.refl (Body.n317 shr))),
  f318 := Eq.trans Tryz.func345 (congrArg some (Eq.refl (Body.n318 shr))),
  f319 := Eq.trans Tryz.func346 (congrArg some (Eq.refl (Body.n319 shr))),
  f320 := Eq.trans Tryz.func347 (congrArg some (Eq.refl (Body.n320 shr))),
  f321 := Eq.trans Tryz.func394 (congrArg some (Eq.refl (Body.n321 shr))),
  f322 := Eq.trans Tryz.func395 (congrArg some (Eq.refl (Body.n322 shr))),
  f337 := Eq.trans Tryz.func377 (congrArg some (Eq.refl (Body.n337 shr))),
  f338 := Eq.trans Tryz.func378 (congrArg some (Eq.refl (Body.n338 shr))),
  t0 := Tryz.underlying0,
  a0 := Tryz.isAgg0,
  z0 := Tryz.sizeOf0,
  v0 := Tryz.zeroValue0,
  t2 := Tryz.underlying2,
  a2 := Tryz.isAgg2,
  z2 := Tryz.sizeOf2,
  v2 := Tryz.zeroValue2,
  t3 := Tryz.underlying3,
  a3 := Tryz.isAgg3,
  z3 := Tryz.sizeOf3,
  v3 := Tryz.zeroValue3,
  t4 := Tryz.underlying4,
  a4 := Tryz.isAgg4,
  z4 := Tryz.sizeOf4,
  v4 := Tryz.zeroValue4,
  t5 := Tryz.underlying5,
  a5 := Tryz.isAgg5,
  z5 := Tryz.sizeOf5,
  v5 := Tryz.zeroValue5,
  t9 := Tryz.underlying9,
  a9 := Tryz.isAgg9,
  z9 := Tryz.sizeOf9,
  v9 := Tryz.zeroValue9,
  t20 := Tryz.underlying20,
  a20 := Tryz.isAgg20,
  z20 := Tryz.sizeOf20,
  v20 := Tryz.zeroValue20,
  t21 := Tryz.underlying21,
  a21 := Tryz.isAgg21,
  z21 := Tryz.sizeOf21,
  v21 := Tryz.zeroValue21,
  t37 := Tryz.underlying175,
  a37 := Tryz.isAgg175,
  z37 := Tryz.sizeOf175,
  v37 := Tryz.zeroValue175,
  t46 := Tryz.underlying241,
  a46 := Tryz.isAgg241,
  z46 := Tryz.sizeOf241,
  v46 := Tryz.zeroValue241,
  t51 := Tryz.underlying368,
  a51 := Tryz.isAgg368,
  z51 := Tryz.sizeOf368,
  v51 := Tryz.zeroValue368,
  t53 := Tryz.underlying370,
  a53 := Tryz.isAgg370,
  z53 := Tryz.sizeOf370,
  v53 := Tryz.zeroValue370,
  t75 := Tryz.underlying183,
  a75 := Tryz.isAgg183,
  z75 := Tryz.sizeOf183,
  v75 := Tryz.zeroValue183,
  t76 := Tryz.underlying184,
  a76 := Tryz.isAgg184,
  z76 := Tryz.sizeOf184,
  v76 := Tryz.zeroValue184,
  t85 := Tryz.underlying466,
  a85 := Tryz.isAgg466,
  z85 := Tryz.sizeOf466,
  v85 := Tryz.zeroValue466,
  t127 := Tryz.underlying266,
  a127 := Tryz.isAgg266,
  z127 := Tryz.sizeOf266,
  v127 := Tryz.zeroValue266,
  t143 := Tryz.underlying478,
  a143 := Tryz.isAgg478,
  z143 := Tryz.sizeOf478,
  v143 := Tryz.zeroValue478,
  t145 := Tryz.underlying480,
  a145 := Tryz.isAgg480,
  z145 := Tryz.sizeOf480,
  v145 := Tryz.zeroValue480,
  t167 := Tryz.underlying465,
  a167 := Tryz.isAgg465,
  z167 := Tryz.sizeOf465,
  v167 := Tryz.zeroValue465,
  t168 := Tryz.underlying468,
  a168 := Tryz.isAgg468,
  z168 := Tryz.sizeOf468,
  v168 := Tryz.zeroValue468,
  t171 := Tryz.underlying378,
  a171 := Tryz.isAgg378,
  z171 := Tryz.sizeOf378,
  v171 := Tryz.zeroValue378,
  t173 := Tryz.underlying380,
  a173 := Tryz.isAgg380,
  z173 := Tryz.sizeOf380,
  v173 := Tryz.zeroValue380,
  t175 := Tryz.underlying471,
  a175 := Tryz.isAgg471,
  z175 := Tryz.sizeOf471,
  v175 := Tryz.zeroValue471,
  t210 := Tryz.underlying475,
  a210 := Tryz.isAgg475,
  z210 := Tryz.sizeOf475,
  v210 := Tryz.zeroValue475,
  t212 := Tryz.underlying422,
  a212 := Tryz.isAgg422,
  z212 := Tryz.sizeOf422,
  v212 := Tryz.zeroValue422,
  t213 := Tryz.underlying423,
  a213 := Tryz.isAgg423,
  z213 := Tryz.sizeOf423,
  t232 := Tryz.underlying463,
  a232 := Tryz.isAgg463,
  z232 := Tryz.sizeOf463,
  v232 := Tryz.zeroValue463,
  t233 := Tryz.underlying464,
  a233 := Tryz.isAgg464,
  z233 := Tryz.sizeOf464,
  v233 := Tryz.zeroValue464,
  g15 := by kernel_rfl,
  g16 := by kernel_rfl,
  g17 := by kernel_rfl,
  g18 := by kernel_rfl,
  g19 := by kernel_rfl }
set_option maxRecDepth 100000 in
theorem lays_n166 : Lays.n166 Tryz.prog shr :=
{ mixed := Eq.refl true,
  f166 := Eq.trans Tryz.func88 (congrArg some (Eq.refl (Body.n166 shr))),
  f240 := Eq.trans Tryz.func172 (congrArg some (Eq.refl (Body.n240 shr))),
  f276 := Eq.trans Tryz.func224 (congrArg some (Eq.refl (Body.n276 shr))),
  t0 := Tryz.underlying0,
  a0 := Tryz.isAgg0,
  z0 := Tryz.sizeOf0,
  v0 := Tryz.zeroValue0,
  t3 := Tryz.underlying3,
  a3 := Tryz.isAgg3,
  z3 := Tryz.sizeOf3,
  v3 := Tryz.zeroValue3,
  t4 := Tryz.underlying4,
  a4 := Tryz.isAgg4,
  z4 := Tryz.sizeOf4,
  v4 := Tryz.zeroValue4,
  t9 := Tryz.underlying9,
  a9 := Tryz.isAgg9,
  z9 := Tryz.sizeOf9,
  v9 := Tryz.zeroValue9,
  t20 := Tryz.underlying20,
  a20 := Tryz.isAgg20,
  z20 := Tryz.sizeOf20,
  v20 := Tryz.zeroValue20,
  t37 := Tryz.underlying175,
  a37 := Tryz.isAgg175,
  z37 := Tryz.sizeOf175,
  v37 := Tryz.zeroValue175,
  t70 := Tryz.underlying174,
  a70 := Tryz.isAgg174,
  z70 := Tryz.sizeOf174,
  v70 := Tryz.zeroValue174,
  t72 := Tryz.underlying177,
  a72 := Tryz.isAgg177,
  z72 := Tryz.sizeOf177,
  v72 := Tryz.zeroValue177,
  t75 := Tryz.underlying183,
  a75 := Tryz.isAgg183,
  z75 := Tryz.sizeOf183,
  v75 := Tryz.zeroValue183,
  t164 := Tryz.underlying313,
  a164 := Tryz.isAgg313,
  z164 := Tryz.sizeOf313,
  v164 := Tryz.zeroValue313 }
set_option maxRecDepth 100000 in
theorem lays_n169 : Lays.n169 Tryz.prog shr :=
{ mixed := Eq.refl true,
  f169 := Eq.trans Tryz.func90 (congrArg some (Eq.refl (Body.n169 shr))),
  t0 := Tryz.underlying0,
  a0 := Tryz.isAgg0,
  z0 := Tryz.sizeOf0,
  v0 := Tryz.zeroValue0,
  t3 := Tryz.underlying3,
  a3 := Tryz.isAgg3,
  z3 := Tryz.sizeOf3,
  v3 := Tryz.zeroValue3,
  t9 := Tryz.underlying9,
  a9 := Tryz.isAgg9,
  z9 := Tryz.sizeOf9,
  v9 := Tryz.zeroValue9,
  t37 := Tryz.underlying175,
  a37 := Tryz.isAgg175,
  z37 := Tryz.sizeOf175,
  v37 := Tryz.zeroValue175,
  t70 := Tryz.underlying174,
  a70 := Tryz.isAgg174,
  z70 := Tryz.sizeOf174,
  v70 := Tryz.zeroValue174,
  t72 := Tryz.underlying177,
  a72 := Tryz.isAgg177,
  z72 := Tryz.sizeOf177,
  v72 := Tryz.zeroValue177,
  t127 := Tryz.underlying266,
  a127 := Tryz.isAgg266,
  z127 := Tryz.sizeOf266,
  v127 := Tryz.zeroValue266 }
set_option maxRecDepth 100000 in
theorem lays_n170 : Lays.n170 Tryz.prog shr :=
{ mixed := Eq.refl true,
  f170 := Eq.trans Tryz.func89 (congrArg some (Eq.refl (Body.n170 shr))),
  t0 := Tryz.underlying0,
  a0 := Tryz.isAgg0,
  z0 := Tryz.sizeOf0,
  v0 := Tryz.zeroValue0,
  t3 := Tryz.underlying3,
  a3 := Tryz.isAgg3,
  z3 := Tryz.sizeOf3,
  v3 := Tryz.zeroValue3,
  t37 := Tryz.underlying175,
  a37 := Tryz.isAgg175,
  z37 := Tryz.sizeOf175,
  v37 := Tryz.zeroValue175,
  t70 := Tryz.underlying174,
  a70 := Tryz.isAgg174,
  z70 := Tryz.sizeOf174,
  v70 := Tryz.zeroValue174,
  t72 := Tryz.underlying177,
  a72 := Tryz.isAgg177,
  z72 := Tryz.sizeOf177,
  v72 := Tryz.zeroValue177 }
set_option maxRecDepth 100000 in
theorem bextra : Builder.Extra Tryz.prog shr :=
{ sizeBuilder := Eq.refl (some 2), liesBuilder := Eq.refl true, t5 := Tryz.underlying5, a5 := Tryz.isAgg5, z5 := Tryz.sizeOf5, v5 := Tryz.zeroValue5,
  infoByte := Eq.refl (some (some (Value.int IntKind.u8 0), 1, 1)), cellsByte := Eq.refl 1, sizeByte := Eq.refl (some 1), neB5 := by decide }
end Go.Proofs.YtoihpnpfnechdaaGreatDoor
namespace Go.Proofs.YtoihpnpfnechdaaGreatDoor
open Go Go.Abs Go.Shelf Go.RowKit
theorem lies_alloc (w : World) (o : Obj) : Lies w (w.alloc o) := ⟨rfl, rfl, rfl, by simp, fun i hi => Below.heap_alloc w o i hi⟩
theorem lies_drew (w : World) (n : Nat) : Lies w (w.drewN n) := ⟨rfl, rfl, rfl, Nat.le_refl _, fun _ _ => rfl⟩
theorem lies_below {w w' : World} (h : Below w.heap.size w w') : Lies w w' := ⟨h.os, h.tape, h.output, h.size, h.block⟩

theorem gl_max {w : World} (h : GlW w) : ∃ m, w.cell? ⟨3, 0, none⟩ = some (.int .i64 m) := by
  obtain ⟨m, T, z, h⟩ := h.max
  exact ⟨m, by simp [World.cell?, h]⟩
theorem gl_blank {w : World} (h : GlW w) : Lib.TabIs Tryz.prog w "strings.asciiSpace" .u8 Lib.asciiSpaceTab := by
  obtain ⟨T, z, h⟩ := h.blank
  unfold Lib.TabIs World.var?
  rw [show Tryz.prog.globalNamed "strings.asciiSpace" = some 0 by kernel_rfl]
  simp only [Option.bind_some, h]
  exact congrArg some (by kernel_rfl)
theorem gl_ten {w : World} (h : GlW w) : Lib.TabIs Tryz.prog w "internal/strconv.uint64pow10" .u64 Lib.pow10Tab := by
  obtain ⟨T, z, h⟩ := h.ten
  unfold Lib.TabIs World.var?
  rw [show Tryz.prog.globalNamed "internal/strconv.uint64pow10" = some 2 by kernel_rfl]
  simp only [Option.bind_some, h]
  exact congrArg some (by kernel_rfl)

def rowS (l : List ByteArray) : AV := .lst (lsz 1 (l.map AV.str)) (l.map AV.str) true
def pieces (s sep : ByteArray) : List ByteArray := Lib.splitB sep 0 (Lib.countB s sep) s

theorem split_c {s sep : ByteArray} {sub : List Blk} (h1 : 1 ≤ sep.size) (hs : s.size < 4294967281) : Contract Tryz.prog 96 [.str s, .str sep] sub (rowS (pieces s sep), sub.map some, []) :=
  contract_val fun w X ρ Y vals hg hsz hargs hX => by
    obtain ⟨m, hm⟩ := gl_max hg.val
    rw [vals2 hsz, (hargs 0 _ rfl).strInv, (hargs 1 _ rfl).strInv]
    refine (Any.strings_Split (ρ := shr) lays_n146 (by kernel_rfl) s sep m w hs hm h1).mono ?_
    rintro e w' ⟨rfl, rfl⟩
    refine ⟨_, rfl, lies_alloc _ _, fun X' ρ' hX' => ?_⟩
    have hlen : (pieces s sep).length = Lib.countB s sep + 1 := Lib.splitB_all sep h1 0 _ s rfl
    rw [← hlen]
    exact strs_new (World.alloc_heap_new _ _) (fun o hx => by have := (hX' _ o hx).1; omega) rfl

def mkB (l : List UInt8) : ByteArray := ⟨l.toArray⟩
def cutV (s sep : ByteArray) : AV := .tup [.str (mkB (Lib.cut s.data.toList sep.data.toList).1), .str (mkB (Lib.cut s.data.toList sep.data.toList).2.1), .bool (Lib.cut s.data.toList sep.data.toList).2.2]

theorem tup3 {w : World} {X : XT} {ρ : Rho} {a b c : Value} {x y z : AV} (h1 : VR w X ρ a x) (h2 : VR w X ρ b y) (h3 : VR w X ρ c z) : VR w X ρ (.tuple #[a, b, c]) (.tup [x, y, z]) := by
  refine .tup _ _ rfl (fun i u hu => ?_)
  match i, hu with
  | 0, hu => cases hu; exact h1
  | 1, hu => cases hu; exact h2
  | 2, hu => cases hu; exact h3
theorem tup2 {w : World} {X : XT} {ρ : Rho} {a b : Value} {x y : AV} (h1 : VR w X ρ a x) (h2 : VR w X ρ b y) : VR w X ρ (.tuple #[a, b]) (.tup [x, y]) := by
  refine .tup _ _ rfl (fun i u hu => ?_)
  match i, hu with
  | 0, hu => cases hu; exact h1
  | 1, hu => cases hu; exact h2

theorem cut_c {s sep : ByteArray} {sub : List Blk} (hs : s.size < 4294967281) : Contract Tryz.prog 177 [.str s, .str sep] sub (cutV s sep, sub.map some, []) :=
  contract_val fun w X ρ Y vals hg hsz hargs hX => by
    obtain ⟨m, hm⟩ := gl_max hg.val
    rw [vals2 hsz, (hargs 0 _ rfl).strInv, (hargs 1 _ rfl).strInv]
    refine (Any.strings_Cut (ρ := shr) lays_n145 s sep m w hs hm).mono ?_
    rintro e w' ⟨rfl, n, rfl⟩
    exact ⟨_, rfl, lies_drew _ _, fun X' ρ' _ => tup3 (.pur _ _ (.str _)) (.pur _ _ (.str _)) (.pur _ _ (.bool _))⟩

def wordsOf (s : ByteArray) : List ByteArray := (Lib.fields s.data.toList).map fun l => ⟨l.toArray⟩
def ascii (s : ByteArray) : Bool := s.data.toList.all fun b => decide (b.toNat < 128)

theorem fields_c {s : ByteArray} {sub : List Blk} (hs : s.size < 4294967281) (ha : ascii s = true) : Contract Tryz.prog 178 [.str s] sub (rowS (wordsOf s), sub.map some, []) :=
  contract_val fun w X ρ Y vals hg hsz hargs hX => by
    rw [vals1 hsz, (hargs 0 _ rfl).strInv]
    refine (Any.strings_Fields (ρ := shr) lays_n157 (by kernel_rfl) (by kernel_rfl) s w hs (fun j b hb => of_decide_eq_true (List.all_eq_true.1 ha b (List.mem_of_getElem? hb))) (gl_blank hg.val)).mono ?_
    rintro e w' ⟨rfl, rfl⟩
    refine ⟨_, rfl, lies_alloc _ _, fun X' ρ' hX' => ?_⟩
    have hlen : (wordsOf s).length = (Lib.fields s.data.toList).length := by simp [wordsOf]
    rw [← hlen]
    refine strs_new (T := shr.t 9) (l := wordsOf s) ?_ (fun o hx => by have := (hX' _ o hx).1; omega) rfl
    rw [World.alloc_heap_new]
    simp [wordsOf, Function.comp_def]

theorem contains_c {s sep : ByteArray} {sub : List Blk} (hs : s.size < 4294967281) : Contract Tryz.prog 305 [.str s, .str sep] sub (.bool (Lib.contains s.data.toList sep.data.toList), sub.map some, []) :=
  contract_val fun w X ρ Y vals hg hsz hargs hX => by
    obtain ⟨m, hm⟩ := gl_max hg.val
    rw [vals2 hsz, (hargs 0 _ rfl).strInv, (hargs 1 _ rfl).strInv]
    refine (Any.strings_Contains (ρ := shr) lays_n144 s sep m w hs hm).mono ?_
    rintro e w' ⟨rfl, rfl⟩
    exact ⟨_, rfl, Lies.refl _, fun X' ρ' _ => .pur _ _ (.bool _)⟩

theorem repeat_c {s : ByteArray} {n : Int} {sub : List Blk} (h0 : 0 ≤ n) (h1 : n ≤ 4294967296) (h2 : s.size ≤ 32768) : Contract Tryz.prog 226 [.str s, .int .i64 n] sub (.str (mkB (Lib.repeatL s.data.toList n.toNat)), sub.map some, []) :=
  contract_val fun w X ρ Y vals hg hsz hargs hX => by
    rw [vals2 hsz, (hargs 0 _ rfl).strInv, (hargs 1 _ rfl).intInv]
    have hle : s.size * n.toNat ≤ 140737488355328 := Nat.le_trans (Nat.mul_le_mul h2 (show n.toNat ≤ 4294967296 by omega)) (by decide)
    have := (Any.strings_Repeat (ρ := shr) lays_n105 bextra s n.toNat w (by omega) hle)
    rw [show ((n.toNat : Nat) : Int) = n by omega] at this
    refine this.mono ?_
    rintro e w' ⟨rfl, hw⟩
    exact ⟨_, rfl, lies_below hw, fun X' ρ' _ => .pur _ _ (.str _)⟩

def decF : Nat → Nat → List UInt8
  | 0, _ => []
  | k + 1, u => if u < 10 then [UInt8.ofNat (48 + u)] else decF k (u / 10) ++ [UInt8.ofNat (48 + u % 10)]
theorem decF_eq : ∀ (k u : Nat), u < 10 ^ (k + 1) → decF (k + 1) u = Lib.decDigits u := by
  intro k
  induction k with
  | zero => intro u h; rw [Lib.decDigits]; simp [decF, show u < 10 by simpa using h]
  | succ k ih =>
    intro u h
    rw [Lib.decDigits, decF]
    by_cases hu : u < 10
    · simp [hu]
    · rw [if_neg hu, dif_neg hu, ih (u / 10) (by rw [Nat.pow_succ] at h; omega)]

theorem itoa_c {n : Int} {sub : List Blk} (h0 : 0 ≤ n) (h1 : n < 10000000000) : Contract Tryz.prog 93 [.int .i64 n] sub (.str (mkB (decF 10 n.toNat)), sub.map some, []) :=
  contract_val fun w X ρ Y vals hg hsz hargs hX => by
    rw [vals1 hsz, (hargs 0 _ rfl).intInv]
    refine (Any.strconv_Itoa (ρ := shr) laysM_n171 n (by omega) (by omega) w (gl_ten hg.val)).mono ?_
    rintro e w' ⟨rfl, k, os, rfl⟩
    refine ⟨_, rfl, ?_, fun X' ρ' _ => ?_⟩
    · exact ⟨rfl, rfl, rfl, (show w.heap.size ≤ (w.heap ++ os).size by simp), fun i hi => (show (w.heap ++ os)[i]? = w.heap[i]? from Array.getElem?_append_left hi)⟩
    · rw [Lib.itoa, if_neg (by omega), ← decF_eq 9 n.toNat (by omega)]
      exact .pur _ _ (.str _)

theorem join_c {l : List ByteArray} {sep : ByteArray} {sz : Nat} {t : Bool} {sub : List Blk} (hz : l ≠ [] → sz = 1) (hl : l.length ≤ 4294967296) (hlen : (Lib.join (l.map (·.data.toList)) sep.data.toList).length ≤ 140737488355328) :
    Contract Tryz.prog 171 [.lst sz (l.map AV.str) t, .str sep] sub (.str (mkB (Lib.join (l.map (·.data.toList)) sep.data.toList)), sub.map some, []) :=
  contract_val fun w X ρ Y vals hg hsz hargs hX => by
    have hrow := strs_row (hargs 0 _ rfl) hz
    rw [vals2 hsz, (hargs 1 _ rfl).strInv]
    rcases hrow with ⟨rfl, a, cap, hv⟩ | ⟨b, o, cap, hv, hle, hc⟩
    · rw [hv]
      refine (Any.strings_Join_none (ρ := shr) lays_n156 bextra a cap sep w).mono ?_
      rintro e w' ⟨rfl, rfl⟩
      exact ⟨_, rfl, Lies.refl _, fun X' ρ' _ => .pur _ _ (.str _)⟩
    · rw [hv]
      cases hl0 : l with
      | nil =>
        refine (Any.strings_Join_none (ρ := shr) lays_n156 bextra _ cap sep w).mono ?_
        rintro e w' ⟨rfl, rfl⟩
        exact ⟨_, rfl, Lies.refl _, fun X' ρ' _ => .pur _ _ (.str _)⟩
      | cons y r =>
        rw [← hl0]
        have hb : b < w.heap.size := World.block_lt_of_cell? _ _ (hc 0 y (by rw [hl0]; rfl))
        refine (Any.strings_Join (ρ := shr) lays_n156 bextra b o cap l sep w hc hb (by omega) hle hlen).mono ?_
        rintro e w' ⟨rfl, hw⟩
        exact ⟨_, rfl, lies_below hw, fun X' ρ' _ => .pur _ _ (.str _)⟩
end Go.Proofs.YtoihpnpfnechdaaGreatDoor
namespace Go.Proofs.YtoihpnpfnechdaaGreatDoor
open Go Go.Abs Go.Shelf Go.RowKit Go.Proofs
theorem digit_calls (c : Nat) (w : World) (h1 : 48 ≤ c) (h2 : c ≤ 57) : Calls Tryz.prog 92 #[.int .u8 c] w fun e w' => e = .returned (.bool true) ∧ w' = w := by
  have h3 : decide ((48 : Int) ≤ (c : Int)) = true := decide_eq_true (by omega)
  have h4 : decide ((c : Int) ≤ 57) = true := decide_eq_true (by omega)
  go_enter Tryz.func92, Tryz.ntmps92
  go_wp2
  go_ret
  exact ⟨rfl, rfl⟩

def digits (s : ByteArray) : Bool := s.data.toList.all fun b => decide (48 ≤ b.toNat) && decide (b.toNat ≤ 57)

set_option maxHeartbeats 1000000 in
set_option maxRecDepth 100000 in
theorem number_calls (s : ByteArray) (n : Int) (w : World) (hs : s.size ≤ 9) (hd : digits s = true) (hn : Lib.atoi s.data.toList = some n) :
    Calls Tryz.prog 309 #[.string s] w fun e w' => e = .returned (.tuple #[.int .i64 n, .bool true]) ∧ Lies w w' := by
  have hat := fun w => Any.strconv_Atoi (ρ := shr) lays_n172 s n (by omega) hn w
  have hle : decide ((s.size : Int) ≤ 9) = true := decide_eq_true (by omega)
  go_enter Tryz.func309, Tryz.ntmps309
  go_wp2
  go_loopw [9] (fun v wr => ∃ k : Nat, k ≤ s.size ∧ v = .int .i64 k ∧ wr = w) (fun v wr => s.size - (intOf v).toNat)
  case atStart => exact ⟨0, Nat.zero_le _, rfl, rfl⟩
  case round =>
    obtain ⟨k, hk, rfl, rfl⟩ := hrel
    by_cases hp : k < s.size
    · have hb : 48 ≤ s[k].toNat ∧ s[k].toNat ≤ 57 := by
        have := List.all_eq_true.1 hd s[k] (by
          have h' : k < s.data.toList.length := by rw [Array.length_toList]; exact hp
          exact List.mem_of_getElem? (List.getElem?_eq_getElem h' |>.trans rfl))
        simpa using this
      go_wp2_with (go_at_call 92; refine (digit_calls _ _ hb.1 hb.2).mono ?_; rintro e w2 ⟨rfl, rfl⟩)
      go_roundw
      case rel => exact ⟨k + 1, by omega, by simp, trivial⟩
      case measure => simp [intOf]; omega
    · obtain rfl : k = s.size := by omega
      go_wp2_with (go_at_call 360; refine (hat _).mono ?_; rintro e w2 ⟨rfl, t, rfl⟩)
      go_ret2
      exact ⟨rfl, ⟨rfl, rfl, rfl, by rw [Lib.bytesWorld_size]; omega, fun k hk => Lib.bytesWorld_at_old _ _ _ k hk⟩⟩

theorem number_c {s : ByteArray} {n : Int} {sub : List Blk} (hs : s.size ≤ 9) (hd : digits s = true) (hn : Lib.atoi s.data.toList = some n) : Contract Tryz.prog 309 [.str s] sub (.tup [.int .i64 n, .bool true], sub.map some, []) :=
  contract_val fun w X ρ Y vals hg hsz hargs hX => by
    rw [vals1 hsz, (hargs 0 _ rfl).strInv]
    refine (number_calls s n w hs hd hn).mono ?_
    rintro e w' ⟨rfl, hl⟩
    exact ⟨_, rfl, hl, fun X' ρ' _ => tup2 (.pur _ _ (.int _ _)) (.pur _ _ (.bool _))⟩
theorem grown_lies {w w' : World} (h : Lies w w') : w.grownBy w' none := ⟨h.os, h.tape, h.output, h.size, fun k hk _ => h.block k hk⟩
theorem builder_lies {T e : TypeId} {B b : Nat} {p : Value} {bs : List Value} {w w' : World} (h : Lib.BuilderAt T e B b p bs w) (hl : Lies w w') : Lib.BuilderAt T e B b p bs w' := by
  have hlt := h.lt
  obtain ⟨hB, v, hb, hown, hne⟩ := h
  exact ⟨hB, v, (hl.block b hlt).trans hb, hown.kept (grown_lies hl) (by cases hv : v.ownBlock with | none => exact .inl rfl | some g => exact .inr (fun e => by cases e)), hne⟩
theorem isBuilder_lies {T e : TypeId} {B b : Nat} {bs : List Value} {w w' : World} (h : Lib.IsBuilder T e B b bs w) (hl : Lies w w') : Lib.IsBuilder T e B b bs w' :=
  h.elim (fun h => .inl (builder_lies h hl)) (fun h => .inr (builder_lies h hl))

def lines (l : List ByteArray) : List UInt8 := l.flatMap fun s => s.data.toList ++ [10]
theorem lines_take (l : List ByteArray) {k : Nat} (h : k < l.length) : lines (l.take (k + 1)) = lines (l.take k) ++ ((l.getD k ByteArray.empty).data.toList ++ [10]) := by
  rw [List.take_add_one, List.getElem?_eq_getElem h]
  unfold lines
  rw [List.flatMap_append]
  simp [List.getD_eq_getElem?_getD, h]
theorem lines_le (l : List ByteArray) (k : Nat) : (lines (l.take k)).length ≤ (lines l).length := by
  have h : lines l = lines (l.take k) ++ lines (l.drop k) := by
    unfold lines
    rw [← List.flatMap_append, List.take_append_drop]
  rw [h, List.length_append]
  omega

theorem lines_len : ∀ l : List ByteArray, l.length ≤ (lines l).length
  | [] => Nat.le_refl _
  | y :: r => by
    have := lines_len r
    simp [lines] at this ⊢
    omega

def textOf (l : List ByteArray) (k : Nat) : ByteArray := l.getD k ByteArray.empty

set_option maxHeartbeats 4000000 in
set_option maxRecDepth 1000000 in
theorem text_calls (l : List ByteArray) (x : Nat → Int) (a : Nat → Option Addr) (m q : Nat → Nat) (b o cap : Nat) (w : World) (hn : l ≠ []) (h0 : ∀ k, k < l.length → w.cell? ⟨b, o + k * 2, none⟩ = some (.int .i64 (x k))) (h1 : ∀ k, k < l.length → w.cell? ⟨b, o + k * 2 + 1, none⟩ = some (.slice (a k) (m k) (q k)))
    (hb : b < w.heap.size) (h87 : ∀ k, k < l.length → ∀ W, Lies w W → Calls Tryz.prog 87 #[.agg #[.int .i64 (x k), .slice (a k) (m k) (q k)]] W fun e W' => e = .returned (.tuple #[.string (textOf l k), .int .i64 0]) ∧ Lies W W') (hlen : (lines l).length ≤ 65536) :
    Calls Tryz.prog 35 #[.slice (some ⟨b, o, none⟩) l.length cap] w fun e w' => e = .returned (.tuple #[.string ⟨(lines l).toArray⟩, .int .i64 0]) ∧ Lies w w' := by
  have wStr := fun (B b : Nat) (bs : List Value) (s : ByteArray) (w : World) => Any.Builder_WriteString (ρ := shr) lays_n166 bextra B b bs s w
  have bStr := fun (B b : Nat) (l : List UInt8) (w : World) => Any.Builder_String (ρ := shr) lays_n169 bextra B b l w
  have bLen := fun (B b : Nat) (bs : List Value) (w : World) => Any.Builder_Len (ρ := shr) lays_n170 B b bs w
  go_enter Tryz.func35, Tryz.ntmps35
  go_wp2
  go_loopw [11] (fun v wr => ∃ k : Nat, k ≤ l.length ∧ v = .int .i64 k ∧ Lib.IsBuilder 177 5 w.heap.size w.heap.size (Lib.byteCells (lines (l.take k))) wr ∧ Below w.heap.size w wr) (fun v wr => l.length - (intOf v).toNat)
  case atStart => exact ⟨0, Nat.zero_le _, rfl, by simpa [lines, Lib.byteCells] using Lib.fresh_isBuilder 177 5 w, (Below.refl _ w).alloc (Nat.le_refl _) _⟩
  case round =>
    obtain ⟨k, hk, rfl, hI, hbw⟩ := hrel
    by_cases hp : k < l.length
    · have c0 : wr.cell? ⟨b, o + k * 2, none⟩ = some (.int .i64 (x k)) := (hbw.cell (p := ⟨b, o + k * 2, none⟩) hb).trans (h0 k hp)
      have c1 : wr.cell? ⟨b, o + k * 2 + 1, none⟩ = some (.slice (a k) (m k) (q k)) := (hbw.cell (p := ⟨b, o + k * 2 + 1, none⟩) hb).trans (h1 k hp)
      have hbl := lies_below hbw
      have hl0 : Lies wr (wr.alloc (Obj.cells #[Value.int IntKind.i64 (x k), Value.slice (a k) (m k) (q k)] 180)) := lies_alloc _ _
      have hI1 := isBuilder_lies hI hl0
      have hbw1 : Below w.heap.size w (wr.alloc (Obj.cells #[Value.int IntKind.i64 (x k), Value.slice (a k) (m k) (q k)] 180)) := hbw.alloc hbw.size _
      have hk1 : (Lib.byteCells (lines (l.take k))).length + (textOf l k ++ ⟨#[10]⟩).size ≤ 65536 := by
        have := lines_le l (k + 1)
        rw [lines_take l hp] at this
        rw [Lib.byteCells_length]
        simp only [List.length_append, List.length_singleton, Array.length_toList] at this
        rw [ByteArray.size_append]
        have e1 : (⟨#[10]⟩ : ByteArray).size = 1 := rfl
        have e2 : (textOf l k).size = (l.getD k ByteArray.empty).data.size := rfl
        omega
      have hnx : Lib.byteCells (lines (l.take k)) ++ Lib.strCells (textOf l k ++ ⟨#[10]⟩) = Lib.byteCells (lines (l.take (k + 1))) := by
        rw [lines_take l hp]
        simp [Lib.byteCells, Lib.strCells, textOf]
      go_wp2_with (go_at_call 87; fail)
      generalize wr.alloc (Obj.cells #[Value.int IntKind.i64 (x k), Value.slice (a k) (m k) (q k)] 180) = W1 at hl0 hI1 hbw1
      refine (h87 k hp W1 (lies_below hbw1)).mono ?_
      rintro e W2 ⟨rfl, hl2⟩
      have hI2 := isBuilder_lies hI1 hl2
      have hbw2 : Below w.heap.size w W2 := hbw1.trans ⟨hl2.os, hl2.tape, hl2.output, hl2.size, fun i hi => hl2.block i (Nat.lt_of_lt_of_le hi hbw1.size)⟩
      have hsum : (textOf l k).size + (⟨#[10]⟩ : ByteArray).size ≤ 9223372036854775807 := by
        rw [ByteArray.size_append] at hk1
        omega
      have hsum2 : decide ((textOf l k).size + (⟨#[10]⟩ : ByteArray).size ≤ 9223372036854775807) = true := decide_eq_true hsum
      go_wp2_with (go_at_call 88; fail)
      refine (wStr w.heap.size w.heap.size _ _ W2 hI2 (Nat.le_trans hk1 (by decide)) hbw2.size).mono ?_
      rintro e W3 ⟨rfl, hI3, hbw3⟩
      have hll := lines_len l
      have hw : wrap64 ((k : Int) + 1) = ((k + 1 : Nat) : Int) := by unfold wrap64; omega
      go_wp2
      go_roundw
      case rel => exact ⟨k + 1, by omega, by simp, by rw [← hnx]; exact .inr hI3, hbw2.trans hbw3⟩
      case measure => simp [intOf, hw]; omega
    · obtain rfl : k = l.length := by omega
      rw [List.take_length] at hI
      have hlc : decide ((65536 : Int) < ((Lib.byteCells (lines l)).length : Int)) = false := decide_eq_false (by rw [Lib.byteCells_length]; omega)
      have hne : lines l ≠ [] := by
        cases l with
        | nil => exact absurd rfl hn
        | cons y r => simp [lines]
      go_wp2_with (go_at_call 89; refine (bLen w.heap.size w.heap.size _ _ hI).mono ?_; rintro e w2 ⟨rfl, rfl⟩)
      go_wp2_with (go_at_call 90; refine (bStr w.heap.size w.heap.size _ _ hI hne).mono ?_; rintro e w3 ⟨rfl, hb3⟩)
      go_ret2
      exact ⟨rfl, lies_below (hbw.trans hb3)⟩

/-- One round of the text: what 'written' gives. -/
theorem empty_get (g : Nm) : Abs.get (heapOf []) g = none := by simp [heapOf, Abs.get]
theorem empty_hr {W : World} (h : GlW W) (h2 : 11 ≤ W.heap.size) : HR (fun _ _ => False) W (fun _ => none) (heapOf []) where
  blk := fun g k hg => by rw [empty_get] at hg; cases hg
  inj := fun g _ k _ b hg => by rw [empty_get] at hg; cases hg
  dom := fun g b hg => by cases hg
  lt := fun g b hg => by cases hg
  sep := fun g k b o hg => by rw [empty_get] at hg; cases hg
  ylt := fun b o h => False.elim h
  gl := ⟨h, h2, fun g b hg => (by cases hg), fun b o h => False.elim h⟩

/-- The rows of the statement list, its texts. -/
def stmtAV (p : Int × AV) : AV := .agg [.int .i64 p.1, p.2]
def isRow : AV → Bool
  | .lst _ _ _ => true
  | _ => false

theorem text_c {sz : Nat} {t : Bool} {l : List (Int × AV)} {ts : List ByteArray} {sub : List Blk} (hn : l ≠ []) (hz : sz = 2) (hlen : ts.length = l.length) (hrow : l.all (fun p => isRow p.2) = true) (h64 : (lines ts).length ≤ 65536)
    (h87 : ∀ (k : Nat) (p : Int × AV), l[k]? = some p → Contract Tryz.prog 87 [stmtAV p] [] (.tup [.str (textOf ts k), .int .i64 0], [], [])) :
    Contract Tryz.prog 35 [.lst sz (l.map stmtAV) t] sub (.tup [.str (mkB (lines ts)), .int .i64 0], sub.map some, []) := by
  refine contract_val fun w X ρ Y vals hg hsz hargs hX => ?_
  have h0 := hargs 0 _ rfl
  rw [vals1 hsz]
  generalize vals.getD 0 undef = v at h0
  obtain ⟨a0, cap0, _, _, _, hp⟩ := h0.lstInv
  have hl0 : (l.map stmtAV).length = l.length := by simp
  generalize hxs : l.map stmtAV = xs at hp hl0
  cases hp with
  | lst0 a cap sz t ht => exact absurd (List.eq_nil_of_length_eq_zero hl0.symm) hn
  | lst b o n cap sz t xs f hn' hc ht hsz hx hr =>
    subst hz
    subst hxs
    have hn2 : n = ts.length := by rw [← hn', hlen, hl0]
    subst hn2
    have hel : ∀ k, k < ts.length → ∃ p, l[k]? = some p ∧ (l.map stmtAV)[k]? = some (stmtAV p) ∧ isRow p.2 = true := by
      intro k hk
      have hk' : k < l.length := by omega
      exact ⟨l[k], by simp [hk'], by simp [hk'], List.all_eq_true.1 hrow _ (List.getElem_mem hk')⟩
    have hv : ∀ k, k < ts.length → ∃ (x : Int) (a : Option Addr) (m q : Nat), f k 0 = .int .i64 x ∧ f k 1 = .slice a m q := by
      intro k hk
      obtain ⟨p, h1, h2, h3⟩ := hel k hk
      have r0 := hr k _ h2 0 _ rfl
      have r1 := hr k _ h2 1 _ rfl
      obtain ⟨i, y⟩ := p
      simp only at h3 r1
      cases y with
      | lst sz' xs' t' =>
        generalize f k 0 = u0 at r0 ⊢
        generalize f k 1 = u1 at r1 ⊢
        cases r0
        cases r1 with
        | lst0 a cap sz t ht => exact ⟨_, _, _, _, rfl, rfl⟩
        | lst b o n cap sz t xs f hn hc ht hsz hx hr => exact ⟨_, _, _, _, rfl, rfl⟩
      | _ => cases h3
    have hbk : b < w.heap.size := by
      obtain ⟨p, h1, h2, h3⟩ := hel 0 (by cases l with | nil => exact absurd rfl hn | cons y r => rw [hlen]; simp)
      exact World.block_lt_of_cell? _ _ (hx 0 _ h2 0 _ rfl).2.1
    refine (text_calls ts (fun k => match f k 0 with | .int _ x => x | _ => 0) (fun k => match f k 1 with | .slice a _ _ => a | _ => none) (fun k => match f k 1 with | .slice _ m _ => m | _ => 0) (fun k => match f k 1 with | .slice _ _ q => q | _ => 0)
      b o cap w (fun e => hn (List.eq_nil_of_length_eq_zero (by rw [← hlen, e]; rfl))) (fun k hk => ?_) (fun k hk => ?_) hbk (fun k hk W hW => ?_) h64).mono ?_
    · obtain ⟨x, a, m, q, e0, e1⟩ := hv k hk
      obtain ⟨p, h1, h2, h3⟩ := hel k hk
      have := (hx k _ h2 0 _ rfl).2.1
      simp only [Nat.add_zero] at this
      simp only [e0] at this ⊢
      exact this
    · obtain ⟨x, a, m, q, e0, e1⟩ := hv k hk
      obtain ⟨p, h1, h2, h3⟩ := hel k hk
      have := (hx k _ h2 1 _ rfl).2.1
      simp only [e1] at this ⊢
      rw [Nat.add_assoc]
      exact this
    · obtain ⟨x, a, m, q, e0, e1⟩ := hv k hk
      obtain ⟨p, h1, h2, h3⟩ := hel k hk
      simp only [e0, e1]
      have hglW : GlW W := hg.val.of fun c _ _ _ hc _ => hW.block c (Nat.lt_of_lt_of_le hc hg.pos)
      have hhr := empty_hr hglW (Nat.le_trans hg.pos hW.size)
      have hst : Stable w X W (XU (fun _ _ => False) (fun _ => none) (heapOf [])) := (hW.st X).less fun c o' _ h => by
        rcases h with ⟨g, k, hg, _⟩ | h
        · rw [empty_get] at hg; cases hg
        · exact h.elim
      refine (h87 k p h1 (fun _ _ => False) W (fun _ => none) _ hhr rfl (fun i y hy => ?_)).mono ?_
      · match i, hy with
        | 0, hy =>
          cases hy
          refine .pur _ _ (.agg _ _ rfl (fun i hi => ?_) (fun i u hu => ?_))
          · match i, hi with
            | 0, _ => rfl
            | 1, _ => rfl
          · match i, hu with
            | 0, hu => have := hr k _ h2 0 u hu; rw [e0] at this; exact this.mono hst
            | 1, hu => have := hr k _ h2 1 u hu; rw [e1] at this; exact this.mono hst
      · rintro e W' ⟨v, ρ', rfl, h4, h5, h6, _⟩
        obtain ⟨vs, rfl, hn3, hc3⟩ := h5.tupInv
        have q0 := (hc3 0 _ rfl).strInv
        have q1 := (hc3 1 _ rfl).intInv
        have : vs = #[vs.getD 0 undef, vs.getD 1 undef] := vals2 (by rw [hn3]; rfl)
        rw [this, q0, q1]
        exact ⟨rfl, h6.os, h6.tape, h6.output, h6.size, fun c hc => h6.blk c hc fun o' ⟨g, k, hg, _⟩ => by rw [empty_get] at hg; cases hg⟩
    · rintro e w' ⟨rfl, hl⟩
      exact ⟨_, rfl, hl, fun X' ρ' _ => tup2 (.pur _ _ (.str _)) (.pur _ _ (.int _ _))⟩
end Go.Proofs.YtoihpnpfnechdaaGreatDoor
namespace Go.Proofs.YtoihpnpfnechdaaGreatDoor
open Go Go.Abs Go.RowKit Go.Shelf
attribute [local go_sem] Oper.semAt_some
set_option maxRecDepth 100000 in
set_option maxHeartbeats 2000000 in
theorem backward1 : Gives1 Tryz.prog 213 10 := by
  intro l B0 b o cap c W R hB hc hY
  refine callsIn_wide.1 (callsIn_of_wp (F := Fence.wide) (n := 0) Tryz.func213 rfl trivial ?_ rfl)
  simp only [Tryz.ntmps213, List.size_toArray, List.length_cons, List.length_nil, Nat.reduceAdd, Nat.reduceSub, Array.replicate_succ, Array.replicate_zero, List.push_toArray, List.append_toArray, List.nil_append, List.cons_append]
  rw [show ((List.range 10).map c).toArray = #[c 0, c 1, c 2, c 3, c 4, c 5, c 6, c 7, c 8, c 9] from rfl] at hY
  have c0 : W.cell? ⟨b, o, none⟩ = some (c 0) := hc 0 (by omega)
  have c1 : W.cell? ⟨b, o + 1, none⟩ = some (c 1) := hc 1 (by omega)
  have c2 : W.cell? ⟨b, o + 2, none⟩ = some (c 2) := hc 2 (by omega)
  have c3 : W.cell? ⟨b, o + 3, none⟩ = some (c 3) := hc 3 (by omega)
  have c4 : W.cell? ⟨b, o + 4, none⟩ = some (c 4) := hc 4 (by omega)
  have c5 : W.cell? ⟨b, o + 5, none⟩ = some (c 5) := hc 5 (by omega)
  have c6 : W.cell? ⟨b, o + 6, none⟩ = some (c 6) := hc 6 (by omega)
  have c7 : W.cell? ⟨b, o + 7, none⟩ = some (c 7) := hc 7 (by omega)
  have c8 : W.cell? ⟨b, o + 8, none⟩ = some (c 8) := hc 8 (by omega)
  have c9 : W.cell? ⟨b, o + 9, none⟩ = some (c 9) := hc 9 (by omega)
  clear hc
  gi_wp2
  gi_loopw [3] (fun i wr => (i = .int .i64 0 ∧ wr = W) ∨ (i = .int .i64 (-1) ∧ R wr)) (fun i _ => (intOf i + 1).toNat)
  case atStart => exact .inl ⟨rfl, rfl⟩
  case round =>
    rcases hrel with ⟨rfl, rfl⟩ | ⟨rfl, hR⟩
    · obtain ⟨fn, tmps, assign, body, hy, hRd⟩ := hY
      gi_wp2
      refine ⟨rfl, hRd.mono ?_⟩
      rintro e W3 ⟨t, rfl, hR⟩
      cases t
      · gi_wp2
        refine bodyPost_ret (results_none rfl _ _ _) rfl ?_
        exact ⟨⟨_, rfl⟩, hR⟩
      · gi_wp2
        go_roundw
        case rel => exact .inr ⟨by simp, hR⟩
        case measure => simp [intOf]
    · gi_wp2
      go_end0
      exact ⟨⟨_, rfl⟩, hR⟩
end Go.Proofs.YtoihpnpfnechdaaGreatDoor
namespace Go.Proofs.YtoihpnpfnechdaaGreatDoor
open Go Go.Abs Go.Shelf Go.RowKit Go.Proofs
def strOf : AV → Option ByteArray
  | .str s => some s
  | _ => none
def strsOf : List AV → Option (List ByteArray)
  | [] => some []
  | x :: r => (strOf x).bind fun s => (strsOf r).map fun l => s :: l
theorem strsOf_map : ∀ {xs : List AV} {l : List ByteArray}, strsOf xs = some l → xs = l.map AV.str := by
  intro xs
  induction xs with
  | nil => intro l h; cases h; rfl
  | cons x r ih =>
    intro l h
    simp only [strsOf, Option.bind_eq_some_iff, Option.map_eq_some_iff] at h
    obtain ⟨s, hs, l', hl, rfl⟩ := h
    cases x <;> simp [strOf] at hs
    subst hs
    rw [ih hl]
    rfl

def hand0 : CL := fun f args sub => match f with
  | 96 => match args with
    | [.str s, .str sep] => if 1 ≤ sep.size ∧ s.size < 4294967281 then some (rowS (pieces s sep), sub.map some, []) else none
    | _ => none
  | 177 => match args with
    | [.str s, .str sep] => if s.size < 4294967281 then some (cutV s sep, sub.map some, []) else none
    | _ => none
  | 178 => match args with
    | [.str s] => if s.size < 4294967281 ∧ ascii s = true then some (rowS (wordsOf s), sub.map some, []) else none
    | _ => none
  | 305 => match args with
    | [.str s, .str sep] => if s.size < 4294967281 then some (.bool (Lib.contains s.data.toList sep.data.toList), sub.map some, []) else none
    | _ => none
  | 226 => match args with
    | [.str s, .int .i64 n] => if 0 ≤ n ∧ n ≤ 4294967296 ∧ s.size ≤ 32768 then some (.str (mkB (Lib.repeatL s.data.toList n.toNat)), sub.map some, []) else none
    | _ => none
  | 93 => match args with
    | [.int .i64 n] => if 0 ≤ n ∧ n < 10000000000 then some (.str (mkB (decF 10 n.toNat)), sub.map some, []) else none
    | _ => none
  | 309 => match args with
    | [.str s] => match Lib.atoi s.data.toList with
      | some n => if s.size ≤ 9 ∧ digits s = true then some (.tup [.int .i64 n, .bool true], sub.map some, []) else none
      | none => none
    | _ => none
  | 171 => match args with
    | [.lst sz xs _, .str sep] => match strsOf xs with
      | some l => if (l = [] ∨ sz = 1) ∧ l.length ≤ 4294967296 ∧ (Lib.join (l.map (·.data.toList)) sep.data.toList).length ≤ 140737488355328 then some (.str (mkB (Lib.join (l.map (·.data.toList)) sep.data.toList)), sub.map some, []) else none
      | none => none
    | _ => none
  | _ => none

theorem hand0_sound : Sound Tryz.prog hand0 := by
  intro f args sub out h
  unfold hand0 at h
  split at h
  · split at h
    · split at h
      · rename_i hc; cases h; exact ⟨entered Tryz.func96 rfl (by decide), split_c hc.1 hc.2⟩
      · cases h
    · cases h
  · split at h
    · split at h
      · rename_i hc; cases h; exact ⟨entered Tryz.func177 rfl (by decide), cut_c hc⟩
      · cases h
    · cases h
  · split at h
    · split at h
      · rename_i hc; cases h; exact ⟨entered Tryz.func178 rfl (by decide), fields_c hc.1 hc.2⟩
      · cases h
    · cases h
  · split at h
    · split at h
      · rename_i hc; cases h; exact ⟨entered Tryz.func305 rfl (by decide), contains_c hc⟩
      · cases h
    · cases h
  · split at h
    · split at h
      · rename_i hc; cases h; exact ⟨entered Tryz.func226 rfl (by decide), repeat_c hc.1 hc.2.1 hc.2.2⟩
      · cases h
    · cases h
  · split at h
    · split at h
      · rename_i hc; cases h; exact ⟨entered Tryz.func93 rfl (by decide), itoa_c hc.1 hc.2⟩
      · cases h
    · cases h
  · split at h
    · split at h
      · rename_i hn
        split at h
        · rename_i hc; cases h; exact ⟨entered Tryz.func309 rfl (by decide), number_c hc.1 hc.2 hn⟩
        · cases h
      · cases h
    · cases h
  · split at h
    · split at h
      · rename_i hl
        split at h
        · rename_i hc
          cases h
          rw [strsOf_map hl]
          exact ⟨entered Tryz.func171 rfl (by decide), join_c (fun hne => hc.1.resolve_left hne) hc.2.1 hc.2.2⟩
        · cases h
      · cases h
    · cases h
  · cases h
end Go.Proofs.YtoihpnpfnechdaaGreatDoor
namespace Go.Proofs.YtoihpnpfnechdaaGreatDoor
open Go Go.Abs Go.Shelf Go.RowKit Go.Proofs Go.Maps Go.Sort
theorem sortsA (m : Nat) : AnyZI.SortsIn Tryz.prog Tryz.sortedA_ren Fence.wide m :=
  ⟨fun blk off cap ss W hH hblk hsz => callsIn_wide.2 (AnyM.slices_Sort_int Tryz.sortA blk off cap ss W hH hblk hsz),
   fun p cap W => callsIn_wide.2 (AnyM.slices_Sort_int_none Tryz.sortA p cap W)⟩

theorem sorted_calls {H : Type} (b nn B0 : Nat) (D0 : DataW H) (R : Value → Option (DataW H × List MemPlace)) (w : World) (hB0 : B0 < w.heap.size) (hm : w.cell? ⟨B0, 0, none⟩ = some (.map (some b))) (hown : w.ownsMap Tryz.prog 3 R b nn D0)
    (hmax : Maps.size D0 ≤ maxLen) (hbytes : Maps.size D0 * 8 ≤ 140737488355328) :
    Calls Tryz.prog 120 #[.func (.func 208) #[] #[.pointer (some ⟨B0, 0, none⟩)]] w fun e w' => ∃ (v : Value) (ss : List Int), e = .returned v ∧ ss.Perm (intKeys D0) ∧
      w'.ownsRow w.heap.size 3 1 v ss.length ((ss.mergeSort (fun x y => decide (x ≤ y))).map encZ) ∧ (v = .slice none 0 0 ↔ ss = []) ∧ Below w.heap.size w w' := by
  have hseq : SeqGives Fence.wide 2 Tryz.prog 208 #[.pointer (some ⟨B0, 0, none⟩)] encZ (fun ss => ss.Perm (intKeys D0)) (Maps.size D0) w :=
    AnyZI.keys_gives (ρ := Tryz.keysA_ren) { Tryz.keysA with } Fence.wide _ trivial rfl (by omega) B0 b nn D0 w hB0 hm hown
  exact callsIn_wide.1 (AnyZI.sorted_in Tryz.sortedA Fence.wide 5 trivial trivial trivial trivial rfl (by omega) (sortsA _) (enters_of Tryz.func126 (by kernel_rfl) rfl) 208 #[.pointer (some ⟨B0, 0, none⟩)] trivial (enters_of Tryz.func208 (by kernel_rfl) rfl) _ _ hmax hbytes _ hseq)

def keysIn : List AV → Option (List Int)
  | [] => some []
  | .agg [.int .i64 k, _] :: r => (keysIn r).map fun l => k :: l
  | _ => none
theorem map_keys {box : Bool} {w : World} {X : XT} {ρ : Rho} {L : List MapEntry} {xs : List AV} (h : MapAt box w X ρ L xs) : ∀ {ks : List Int}, keysIn xs = some ks → L.map (·.key) = ks.map (Value.int .i64) := by
  induction h with
  | nil => intro ks h; cases h; rfl
  | cons e k x es xs hk hv _ ih =>
    intro ks h
    unfold keysIn at h
    split at h
    · rename_i h2; cases h2
    · rename_i h2
      cases h2
      obtain ⟨l, hl, rfl⟩ := Option.map_eq_some_iff.1 h
      simp only [List.map_cons, ih hl, hk]
      rfl
    · cases h

def keyD (ks : List Int) : DataW Unit := .map ((ks.map fun k => (Lit.int .i64 k, DataW.nil)).foldr DataW.insert [])
def keyL (ks : List Int) : List Int := intKeys (keyD ks)
def wfK (ks : List Int) : Bool := ks.all fun k => (Lit.int .i64 k).wf
def upK : List Int → Bool
  | a :: b :: r => decide (a ≤ b) && upK (b :: r)
  | _ => true
theorem upK_pw : ∀ {l : List Int}, upK l = true → l.Pairwise (fun x y => decide (x ≤ y) = true)
  | [], _ => .nil
  | [a], _ => by simp
  | a :: b :: r, h => by
    simp only [upK, Bool.and_eq_true, decide_eq_true_eq] at h
    have ih := upK_pw h.2
    refine List.pairwise_cons.2 ⟨fun c hc => ?_, ih⟩
    rcases List.mem_cons.1 hc with rfl | hc
    · exact decide_eq_true h.1
    · have := of_decide_eq_true ((List.pairwise_cons.1 ih).1 c hc)
      exact decide_eq_true (by omega)
theorem sort_eq {ss l : List Int} (hp : ss.Perm l) (hu : upK l = true) : ss.mergeSort (fun x y => decide (x ≤ y)) = l := by
  have h1 := List.pairwise_mergeSort (le := fun (x y : Int) => decide (x ≤ y)) (fun a b c hab hbc => by simp at hab hbc ⊢; omega) (fun a b => by simp; omega) ss
  refine ((List.mergeSort_perm ss _).trans hp).eq_of_pairwise (fun a b _ _ hab hba => ?_) h1 (upK_pw hu)
  simp at hab hba
  omega

def rowZ (l : List Int) : AV := .lst (lsz 1 (l.map (AV.int .i64))) (l.map (AV.int .i64)) false
theorem ints_new {w : World} {X : XT} {ρ : Rho} {v : Value} {B T : Nat} {l : List Int} (h : w.ownsRow B T 1 v l.length (l.map encZ)) (hX : ∀ b o, X b o → b < B) : VR w X ρ v (rowZ l) := by
  obtain ⟨_, ⟨rfl, hn⟩ | ⟨g, cap, cur, rfl, hg, hh, hle, _, _, hc⟩⟩ := h
  · have : l = [] := List.eq_nil_of_length_eq_zero hn
    subst this
    exact .pur _ _ (.lst0 _ _ _ _ (fun e => by cases e))
  · refine .pur _ _ (PR.canon (.lst g 0 l.length cap 1 false (l.map (AV.int .i64)) (fun i _ => .int .i64 (l.getD i 0)) (by simp) hle (fun e => by cases e) (fun i y hy => ?_) (fun i y hy j z hz => ?_) (fun i y hy j z hz => ?_)))
    · rw [List.getElem?_map] at hy
      obtain ⟨s, _, rfl⟩ := Option.map_eq_some_iff.1 hy
      rfl
    all_goals
      rw [List.getElem?_map] at hy
      obtain ⟨s, hs, rfl⟩ := Option.map_eq_some_iff.1 hy
      cases j with
      | succ j => simp [AV.cells] at hz
      | zero => ?_
    · refine ⟨fun hx => by have := hX _ _ hx; omega, ?_, rfl⟩
      rw [cell_of_row w g _ _ T (0, 0) hh]
      have hi : i < l.length := (List.getElem?_eq_some_iff.1 hs).1
      have h3 : (cur.toList.take (l.length * 1))[i]? = some (encZ s) := by rw [hc, List.getElem?_map, hs]; rfl
      rw [List.getElem?_take, if_pos (by omega)] at h3
      simpa [hs, List.getD_eq_getElem?_getD, encZ] using h3
    · simp [AV.cells] at hz
      subst hz
      simp only [List.getD_eq_getElem?_getD, hs, Option.getD_some]
      exact .int _ s

def handK : List AV → List Blk → Option Out
  | [.clo 208 [.ptr g 1 0 0]], [⟨1, [.ptr h 0 0 0], z1, true⟩, ⟨0, es, z2, bx⟩] =>
    if g = (0, 0) ∧ h = (1, 0) then match keysIn es with
      | some ks => if wfK ks = true ∧ upK (keyL ks) = true ∧ ks.length ≤ 4294967296 ∧ (keyL ks).length ≤ 4294967296 then some (rowZ (keyL ks), [some ⟨1, [.ptr h 0 0 0], z1, true⟩, some ⟨0, es, z2, bx⟩], []) else none
      | none => none
    else none
  | _, _ => none

theorem under3 : Tryz.prog.underlying 3 = some (.int .i64) := by kernel_rfl

theorem handK_sound {args : List AV} {sub : List Blk} {out : Out} (h : handK args sub = some out) : Contract Tryz.prog 120 args sub out := by
  unfold handK at h
  split at h
  · rename_i g h' z1 es z2 bx
    split at h
    · rename_i hgh
      obtain ⟨rfl, rfl⟩ := hgh
      split at h
      · rename_i ks hks
        split at h
        · rename_i hc
          obtain ⟨c1, c2, c3, c4⟩ := hc
          cases h
          refine contract_valH fun w ρ Y vals hr hsz hargs hX => ?_
          rw [vals1 hsz]
          have hv := hargs 0 _ rfl
          generalize vals.getD 0 undef = v at hv
          -- the closure, its variable
          cases hv with
          | pur v x h => cases h
          | clo _ vs _ hn hcl =>
            obtain ⟨B0, e1, e2⟩ := (hcl 0 _ rfl).ptrInv (by decide)
            have hvs : vs = #[.pointer (some ⟨B0, 0, none⟩)] := by
              have h9 := vals1 (vals := vs) (by simpa using hn)
              rw [e1] at h9
              exact h9
            subst hvs
            have hg0 : Abs.get (heapOf [⟨1, [.ptr (1, 0) 0 0 0], z1, true⟩, ⟨0, es, z2, bx⟩]) (0, 0) = some ⟨1, [.ptr (1, 0) 0 0 0], z1, true⟩ := rfl
            have hg1 : Abs.get (heapOf [⟨1, [.ptr (1, 0) 0 0 0], z1, true⟩, ⟨0, es, z2, bx⟩]) (1, 0) = some ⟨0, es, z2, bx⟩ := rfl
            obtain ⟨cs, T, hb, hle, he⟩ := (hr.at hg0 e2).cells (show 0 < 1 by decide)
            have hrow := (he 0 (.ptr (1, 0) 0 0 0) rfl).2 0 _ rfl
            simp only [Nat.zero_mul, Nat.add_zero] at hrow
            have hcell : w.cell? ⟨B0, 0, none⟩ = some (cs.getD 0 undef) := by
              rw [cell_of_row w B0 0 cs T (0, 0) hb]
              have : 0 < cs.size := by simp at hle; omega
              simp [Array.getD_eq_getD_getElem?, this]
            obtain ⟨b, es', cl, hmv, hρb, _, _, hobj, hmap⟩ := mp_ref (m := .ptr (1, 0) 0 0 0) hr (by unfold mpBlk; simp only [hg1]; rfl) hrow.2.vr
            rw [hmv] at hcell
            have hkeys := map_keys hmap.mp hks
            have hlen : es'.toList.length = ks.length := by have := congrArg List.length hkeys; simpa using this
            let R : Value → Option (DataW Unit × List MemPlace) := fun _ => some (.nil, [])
            have hread : ∀ e ∈ es'.toList, ∃ k, e.key = .int .i64 k ∧ k ∈ ks := by
              intro e he'
              have : e.key ∈ es'.toList.map (·.key) := List.mem_map.2 ⟨e, he', rfl⟩
              rw [hkeys] at this
              obtain ⟨k, hk, hk2⟩ := List.mem_map.1 this
              exact ⟨k, hk2.symm, hk⟩
            have hrd : ∀ (e : MapEntry) (k : Int), e.key = .int .i64 k → k ∈ ks → WideElems.rd Tryz.prog 3 R e = some (.int .i64 k, .nil) := by
              intro e k hk hm
              have : keyOf Tryz.prog 3 (.int .i64 k) = some (.int .i64 k) := keyOf_int_mk under3 (List.all_eq_true.1 c1 k hm)
              simp [WideElems.rd, hk, this, R]
            have hrg : es'.toList.map (WideElems.rg Tryz.prog 3 R) = ks.map fun k => (Lit.int .i64 k, DataW.nil) := by
              have main : ∀ (L : List MapEntry) (l : List Int), L.map (·.key) = l.map (Value.int .i64) → (∀ k ∈ l, k ∈ ks) → L.map (WideElems.rg Tryz.prog 3 R) = l.map fun k => (Lit.int .i64 k, DataW.nil) := by
                intro L
                induction L with
                | nil => intro l h _; cases l with
                  | nil => rfl
                  | cons a r => simp at h
                | cons e L ih =>
                  intro l h hm
                  cases l with
                  | nil => simp at h
                  | cons a r =>
                    simp only [List.map_cons, List.cons.injEq] at h
                    simp only [List.map_cons, List.cons.injEq]
                    exact ⟨WideElems.rg_of (hrd e a h.1 (hm a (List.mem_cons_self))), ih r h.2 fun k hk => hm k (List.mem_cons_of_mem _ hk)⟩
              exact main _ _ hkeys fun _ h => h
            have hown : w.ownsMap Tryz.prog 3 R b es'.size (keyD ks) :=
              ⟨es', cl, hobj, ⟨by rw [← Array.length_toList, hlen]; exact Nat.le_trans c3 (by decide), hmap.sd, fun e he' => by
                obtain ⟨k, hk, hm⟩ := hread e he'
                exact ⟨_, hrd e k hk hm⟩⟩, Nat.le_refl _, by rw [hrg]; rfl⟩
            have hsz2 : Maps.size (keyD ks) = (keyL ks).length := by simp [Maps.size, keyD, keyL, intKeys]
            refine (sorted_calls b es'.size B0 (keyD ks) R w (hr.lt _ _ e2) hcell hown (by rw [hsz2]; exact Nat.le_trans c4 (by decide)) (by rw [hsz2]; omega)).mono ?_
            rintro e w' ⟨v, ss, rfl, hp, hrow2, _, hbl⟩
            refine ⟨v, rfl, ⟨hbl.os, hbl.tape, hbl.output, hbl.size, hbl.block⟩, fun X' ρ' hX' => ?_⟩
            have hs := sort_eq (l := keyL ks) hp c2
            rw [hs, show ss.length = (keyL ks).length from hp.length_eq] at hrow2
            exact ints_new hrow2 fun b o hx => (hX' b o hx).1
        · cases h
      · cases h
    · cases h
  · cases h
end Go.Proofs.YtoihpnpfnechdaaGreatDoor
namespace Go.Proofs.YtoihpnpfnechdaaGreatDoor
open Go Go.Abs Go.Shelf Go.RowKit Go.Proofs
def nt (l : List Nat) (s b p : Bool) (ps : List (Nat × List (Nat × Nat))) : Note := ⟨true, l, s, fun id => (ps.lookup id).getD [], b, p⟩
def offN : Note := ⟨false, [], false, fun _ => [], false, false⟩
def tabT : List (Nat × Note) :=
  [(5, nt [0, 1, 3, 4, 5, 6, 7, 9, 10, 11, 12] true false false []),
  (13, nt [0, 1, 2, 3, 4, 8, 9, 10, 11, 12, 22, 35] true false false []),
  (15, nt [0, 1, 2, 3, 5, 6, 7, 8, 9, 10, 18, 38] true true true [(5, [(4, 6)])]),
  (16, nt [0, 1, 2, 3, 4, 5, 12] true false false []),
  (17, nt [0, 1, 2, 3, 4, 5, 8, 17, 31] true false false []),
  (18, nt [0, 2, 3, 4, 5, 13] true false false []),
  (21, nt [0, 1, 2, 3, 6, 7, 8, 9, 10, 11, 12, 13, 14, 24] true false false []),
  (22, nt [0, 1, 2, 3, 4, 5, 6, 12, 13, 14, 15, 16, 18, 20, 21, 23, 24, 25, 26, 35, 39, 49, 63, 64, 65, 66, 71, 92, 93, 94, 95, 106, 108] true false true [(24, [(1, 7), (3, 7), (1, 9), (3, 9), (1, 10), (3, 10)])]),
  (23, nt [0, 1, 2, 3, 6] true false false []),
  (30, nt [0, 1, 2, 3, 4, 8, 9, 10, 11, 17, 21, 27] true false false []),
  (31, nt [0, 1, 2, 3, 4, 5, 8, 9, 11, 12, 13, 15, 16, 18, 19, 21, 22, 23, 24, 43, 44, 45, 46, 62] true false false []),
  (32, nt [0, 1, 2, 4, 5, 8, 13] true true false []),
  (33, nt [0, 1, 2, 3, 4, 6, 7, 8, 30, 35, 39, 40, 41, 42, 51, 53, 58, 66] true false false []),
  (34, nt [0, 1, 2, 3, 4, 5, 7, 9, 11, 13, 15, 17, 21, 27, 28, 29, 30, 38, 39, 40, 41, 49, 50, 51, 52, 60, 61, 62, 63, 73, 74, 75, 76, 84, 85, 86, 87] true false false []),
  (35, nt [0, 2, 3, 4, 6, 7, 8, 9, 10, 11, 12, 21, 28] false false false []),
  (36, nt [0, 2, 3, 4, 17, 19, 20, 21, 41] true false false []),
  (37, nt [0, 1, 2, 3, 4, 5, 6, 7, 8, 10, 11, 24, 42, 49, 54, 72] true false false [(3, [(2, 4)])]),
  (38, nt [0, 2, 3, 4, 5, 6, 7, 8, 11, 13, 14, 15, 16, 36, 38, 44] true false true []),
  (39, nt [0, 2, 3, 4, 5, 6, 8, 9, 10, 15, 16, 17, 18, 24, 39, 51] true true true [(7, [(2, 3)]), (8, [(6, 8)]), (10, [(2, 4)])]),
  (48, nt [0, 1, 2, 3, 6] true false false []),
  (49, nt [0, 1, 2, 4] true false false []),
  (50, nt [0, 1, 2, 3, 4, 5, 7, 8, 10, 11, 12, 13, 14, 15, 16, 18, 19, 20, 21, 31, 32, 33, 34, 50, 56, 72, 89] true false false [(12, [(3, 4)]), (20, [(3, 5), (3, 9)])]),
  (51, nt [0, 1, 2, 3, 4, 5, 8, 9, 10, 12, 15, 24, 25, 26, 27, 32] true false false []),
  (52, nt [0, 2, 3, 8, 11] true false false []),
  (53, nt [0, 1, 2, 3, 4, 5] true false false []),
  (58, nt [0, 2, 3, 5, 8, 9, 10, 11] true false false []),
  (59, nt [0, 1, 2, 3, 6, 7, 8, 21] true false false []),
  (60, nt [0, 1, 4] true false false []),
  (61, nt [0, 1, 2, 4, 5, 6, 7] true false false [(3, [(1, 2), (1, 3)])]),
  (62, nt [0, 1, 2, 3, 4, 5, 6, 7, 8, 9, 10, 12, 13, 15, 18, 25, 26, 27, 44, 45, 46, 47] true false false [(7, [(0, 5), (5, 7), (6, 7)]), (9, [(0, 2)])]),
  (63, nt [0, 1, 4, 5, 6, 7, 8, 9, 15, 27] true false false []),
  (64, nt [0, 1, 2, 6, 8, 9, 10, 11, 12, 15, 25, 31, 35, 42] true false false []),
  (65, nt [0, 2, 3, 5, 6, 7, 8, 9, 10, 17, 43] true false false []),
  (66, nt [0, 1, 2, 3, 4, 5, 6, 7, 8, 27, 28, 29, 46, 47, 48, 65, 66, 67, 84, 85, 86, 112, 113, 114] true true false [(1, [(2, 4), (2, 7), (5, 7), (2, 10), (5, 10), (8, 10)]), (5, [(1, 9)]), (10, [(1, 9)]), (15, [(1, 9)]), (21, [(6, 10)]), (25, [(3, 18), (8, 18), (18, 22), (18, 26), (3, 27), (8, 27)])]),
  (67, nt [0, 1, 2, 6, 7, 9, 10, 11, 13, 14, 15, 16, 25, 31] true false false []),
  (68, nt [0, 1, 2] true false false []),
  (69, nt [0, 1, 2, 16] true false false []),
  (70, nt [0, 1, 4, 7, 10] true false false []),
  (71, nt [0, 1, 2, 3, 4, 5, 13, 18] true false false []),
  (72, nt [0, 1, 2, 6, 7, 9, 10, 11, 13, 14, 15, 16, 25, 31] true false false []),
  (76, nt [0, 1, 2, 6, 7, 9, 10, 11, 13, 14, 15, 16, 25, 31] true false false []),
  (77, nt [0, 1, 2] true false false []),
  (78, nt [0, 1, 2, 3] true false false []),
  (79, nt [0, 1, 2, 3, 4, 5, 7, 8, 18, 24, 27, 28, 29, 30, 37] true false false []),
  (80, nt [0, 1, 3, 4, 5, 7, 20, 21, 22, 23] true false false [(3, [(3, 5)]), (7, [(3, 5), (3, 9), (6, 9), (3, 12), (6, 12), (3, 16), (6, 16), (13, 16), (3, 19), (6, 19), (13, 19), (3, 22), (6, 22), (13, 22), (20, 22), (3, 25), (6, 25), (13, 25), (20, 25), (23, 25), (3, 28), (6, 28), (13, 28), (20, 28), (23, 28), (26, 28)])]),
  (81, nt [0, 1, 3, 4, 15, 26, 36] true false false [(1, [(2, 5)]), (3, [(1, 3)]), (5, [(1, 3)])]),
  (83, nt [0, 1, 2] true false false [(0, [(4, 12), (8, 12), (4, 13), (8, 13), (4, 15), (8, 15), (4, 17)])]),
  (84, nt [0, 2] true false false []),
  (85, nt [0, 1, 3, 44] true false false [(1, [(3, 6), (3, 10), (7, 10), (3, 14), (7, 14), (11, 14), (3, 17), (7, 17), (11, 17), (15, 17), (2, 19), (3, 19), (6, 19), (7, 19), (10, 19), (11, 19), (14, 19), (15, 19), (17, 19), (18, 19), (3, 21), (7, 21), (11, 21), (15, 21), (18, 21), (19, 21), (3, 23), (7, 23), (11, 23), (15, 23), (18, 23)]), (5, [(1, 3), (1, 10), (1, 12), (1, 15), (1, 16), (3, 16), (5, 16), (1, 17), (3, 17), (5, 17)])]),
  (86, nt [0, 1, 3, 4, 12] true false false [(4, [(1, 3), (1, 8), (1, 9), (3, 9), (5, 9), (1, 11), (9, 11), (1, 12), (3, 12), (5, 12), (1, 13), (3, 13), (5, 13), (1, 14), (3, 14), (5, 14)])]),
  (87, nt [0, 1, 2, 3, 4, 6, 7, 8, 9, 13, 15, 16, 17, 18, 27, 37] true false false []),
  (91, nt [0, 2] true false false []),
  (94, nt [0, 1, 4, 5, 15] true false false []),
  (95, nt [0, 2, 3, 4, 5] true false false [(2, [(2, 5), (2, 10), (6, 10)])]),
  (97, nt [0, 2, 3, 4, 5, 7, 8, 9, 12, 14, 15, 16, 27, 36, 37, 38, 39, 48] true false true []),
  (98, nt [0, 2, 3, 4, 5, 6, 16, 26, 29, 36, 57, 59, 60, 61, 62, 78] true false false []),
  (99, nt [0, 2] true true false []),
  (106, nt [0, 1, 2] true false false [(1, [(0, 3)])]),
  (107, nt [0, 1, 2, 4, 9] true false false [(2, [(0, 2)])]),
  (108, nt [0, 1, 2, 4] true false false []),
  (109, nt [0, 1, 2] true false false []),
  (111, nt [0, 1, 2, 3, 4, 6, 7, 8, 9, 10, 12, 17] true false false [(5, [(1, 4)])]),
  (112, nt [0, 1, 2, 3, 4, 5, 7, 8, 10, 11, 12, 13, 27] true false false [(4, [(1, 3), (3, 5)])]),
  (113, nt [0, 2, 3, 4, 7, 8, 9, 10, 11, 15, 31] true false false []),
  (114, nt [0, 2, 3, 5, 6, 7, 8, 9] true false false []),
  (115, nt [0, 1, 4] true false false []),
  (117, nt [0, 1, 2, 3, 4, 5, 6, 7, 9, 10, 11, 18, 22, 23, 24, 25, 31, 67] true false false []),
  (118, nt [0, 1, 2, 3, 6, 7, 8, 9, 12, 21] true false false []),
  (119, nt [0, 2, 3, 4, 6, 7, 13, 14, 15, 16, 33] true false false []),
  (120, nt [0, 2, 3] true false false []),
  (121, nt [0, 1, 2] true false false []),
  (122, nt [0, 1, 2, 3, 4, 6, 8, 14] true false false []),
  (123, nt [0, 1, 4, 5, 6, 7, 12, 19, 29] true false false []),
  (124, nt [0, 2, 4] false false false []),
  (125, nt [0, 1, 2, 4] true false false []),
  (126, nt [0, 2] true false false []),
  (127, nt [0, 2, 3, 4, 5, 8, 13, 25, 32, 44] true false false []),
  (128, nt [0, 1, 2] true false false []),
  (129, nt [0, 1, 4, 5, 6, 7, 8, 18, 51, 66] true false false [(4, [(4, 28), (9, 28), (15, 28), (20, 28), (26, 28)])]),
  (130, nt [0, 1, 2, 4, 5, 6, 8, 10, 12, 14, 15, 16, 17, 22, 31, 49, 50, 51, 52] true false false [(9, [(2, 6)])]),
  (131, nt [0, 1, 2, 3, 4, 5, 8, 9, 10, 11, 12, 13, 15, 16, 17, 18, 30, 31, 32, 33, 48, 51, 66] true false false []),
  (132, nt [0, 1, 4, 5, 6, 8, 9, 10, 11, 12, 13, 14, 30, 49, 58, 79] true false false []),
  (133, nt [0, 2, 3, 5, 6, 7, 8, 9] true false false []),
  (134, nt [0, 1, 4] true false false []),
  (135, nt [0, 1, 2, 3, 4] true false false []),
  (136, nt [0, 1, 4] true false false []),
  (137, nt [0, 2] true false false []),
  (138, nt [0, 1, 2, 4] true false false []),
  (139, nt [0, 2, 4] false true false []),
  (140, nt [0, 2, 4] false true false []),
  (142, nt [0, 2, 4] false true false []),
  (145, nt [0, 2, 4] false true false []),
  (147, nt [0, 1, 2, 4] true false false []),
  (148, nt [0, 1, 4] true false false []),
  (150, nt [0, 1, 4] true false false []),
  (151, nt [0, 2] true false false []),
  (152, nt [0, 1, 4] true false false []),
  (154, nt [0, 2, 4] true false false []),
  (155, nt [0, 1, 2, 6, 7, 9, 10, 11, 13, 14, 15, 16, 25, 31] true false false []),
  (156, nt [0, 1, 2] true false false []),
  (157, nt [0, 1, 2, 3] true false false []),
  (158, nt [0, 1, 2, 3, 4, 5, 13, 44, 49, 54, 59, 64, 69, 82] true false false []),
  (159, nt [0, 1, 2, 3, 4, 5, 9, 14, 41, 50, 61, 77] true false false []),
  (160, nt [0, 2] true false false []),
  (161, nt [0, 2] true false false []),
  (163, nt [0, 2] true false false []),
  (164, nt [0, 1, 4] true false false []),
  (165, nt [0, 1, 2, 7, 8, 9, 10, 11, 12] true false false [(4, [(5, 7), (5, 13), (9, 13), (11, 13)])]),
  (167, nt [0, 1, 4, 5, 7, 8, 9, 10, 11] true false false []),
  (168, nt [0, 2] true false false []),
  (169, nt [0, 1, 4, 6] true false false []),
  (170, nt [0, 2] true false false []),
  (174, nt [0, 1, 4, 5] true false false []),
  (175, nt [0, 2, 3, 4, 5, 13, 29] true false false []),
  (179, nt [0, 2, 3, 4, 5, 6, 8, 16, 20] true false false []),
  (180, nt [0, 1, 2, 3, 4, 5, 41] true false false []),
  (181, nt [0, 2, 3, 4, 6, 9, 13, 14, 15, 16, 35, 47] true false false []),
  (182, nt [0, 1, 4] true true false [(1, [(5, 15)])]),
  (184, nt [0, 1, 4, 5, 6, 7, 8, 9, 28, 35, 36, 46, 56, 62] true true false [(16, [(5, 7)])]),
  (188, nt [0, 1, 4] true true false [(1, [(5, 11)])]),
  (189, nt [0, 1, 4, 5, 6, 7, 8, 9, 10, 18, 28, 42] true true false [(12, [(4, 25)])]),
  (190, nt [0, 1, 4, 5, 6, 7, 9, 10, 11, 12, 18, 21, 22, 23, 24, 40] true true false []),
  (194, nt [0, 2, 3, 5, 6, 8, 9, 10, 11] true false false []),
  (195, nt [0, 1, 2, 5] true false false []),
  (196, nt [0, 1, 2] true false false []),
  (197, nt [0, 1, 4, 5, 7, 8, 9, 16] true false false []),
  (198, nt [0, 1, 2, 3, 4, 6, 7, 8, 10, 11, 12, 17, 21, 23, 24, 25, 26, 32, 44, 46, 47, 48, 49, 57] true false false []),
  (199, nt [0, 1, 2, 6] true false false []),
  (200, nt [0, 1, 2, 3, 4] true false false []),
  (201, nt [0, 1, 2, 4, 6] true false false []),
  (202, nt [0, 1, 4, 5, 6, 7, 12, 19, 29] true false false []),
  (203, nt [0, 2, 4] false false false []),
  (204, nt [0, 1, 2] true false false []),
  (205, nt [0, 1, 4] true false false []),
  (206, nt [0, 1, 2, 3, 4] true false false []),
  (207, nt [0, 2] true false false []),
  (209, nt [0, 1, 2, 3, 4, 5, 6, 7, 8, 9, 10, 13, 14, 15, 21, 26] true false false []),
  (210, nt [0, 1, 4, 5, 7, 8, 9, 16] true false false []),
  (211, nt [0, 1, 2, 3, 8, 9, 10, 11, 12, 13, 14, 15, 16, 17, 18, 23, 29, 35, 50, 68, 72, 87, 113] true false false []),
  (212, nt [0, 2] true false false []),
  (214, nt [0, 1, 2, 4, 5, 7, 9, 10, 11, 12, 23] true false false []),
  (215, nt [0, 1, 2, 3, 4, 5, 8, 9, 10, 11, 34, 45, 58, 59, 74] true false false []),
  (216, nt [0, 1, 2, 3, 4, 6, 7, 8, 9, 10, 11, 12, 13, 26, 29, 50, 63, 80] true false false [(6, [(2, 6), (2, 8), (6, 9)])]),
  (217, nt [0, 1, 2, 3, 4, 10, 11, 12, 13, 14, 15, 16, 17, 18, 19, 20, 25, 32, 39, 56, 75, 80, 97, 125] true false false []),
  (218, nt [0, 2] true false false []),
  (219, nt [0, 1, 4, 5, 7, 8, 9, 16] true false false []),
  (220, nt [0, 1, 2, 6] true false false []),
  (221, nt [0, 1, 3] true false false []),
  (227, nt [0, 2, 3] true false false []),
  (228, nt [0, 2, 3, 11] true false false []),
  (229, nt [0, 1, 4, 5, 11, 13] true false false []),
  (236, nt [0, 2, 3, 4, 5, 6, 7, 8, 9, 10, 11, 12, 13, 14, 15, 18, 23, 37, 47, 57] true false false []),
  (237, nt [0, 1, 4, 5, 7, 8, 9, 16] true false false []),
  (238, nt [0, 1, 2, 3] true false false []),
  (245, nt [0, 1, 4, 5] true true false []),
  (246, nt [0, 2, 4] true false false []),
  (252, nt [0, 1, 4, 5, 7, 8, 9, 16] true false false []),
  (253, nt [0, 2, 5] true true false []),
  (254, nt [0, 2, 4] true false false []),
  (255, nt [0, 2, 3, 11] true true false []),
  (256, nt [0, 2, 4] true false false []),
  (257, nt [0, 1, 2, 4, 5] true false false []),
  (261, nt [0, 1] true false false []),
  (263, nt [0, 1, 4, 5, 6, 7, 11, 21] true false false []),
  (265, nt [0, 1, 4, 5, 7, 8, 9, 16] true false false []),
  (266, nt [0, 1, 2, 3, 4, 10, 11, 12, 13, 14, 15, 16, 17, 18, 19, 20, 25, 32, 39, 56, 75, 80, 97, 125] true false false []),
  (267, nt [0, 1, 2, 4, 5, 6, 7] true false false []),
  (268, nt [0, 1, 2, 3, 4, 6, 7, 8, 17] true false false []),
  (269, nt [0, 1, 2, 3, 4, 5, 6] true false false []),
  (270, nt [0, 1, 2, 6, 7, 12, 30] true false false []),
  (279, nt [0, 2, 4, 8, 14] true false false []),
  (281, nt [0, 1, 2, 4] true false false []),
  (282, nt [0, 1, 2, 3, 8, 9, 14, 34] true false false []),
  (297, nt [0, 1, 4, 5, 12] true false false []),
  (304, nt [0, 2, 3, 4, 5, 14] true false false []),
  (307, nt [0, 2, 3, 4, 5, 6, 7, 8, 9, 10, 11, 24] true false false []),
  (308, nt [0, 2, 3, 4, 5, 6, 7, 8, 9, 19, 23, 24, 25, 26, 44] true false false []),
  (311, nt [0, 1, 2, 4, 5, 6, 7, 8] true false false []),
  (312, nt [0, 1, 2] true true false []),
  (313, nt [0, 2, 5] true true false []),
  (314, nt [0, 1, 2, 4, 5, 6, 7, 8] true false false []),
  (315, nt [0, 1, 2] true false false []),
  (318, nt [0, 1, 2] true false false [(1, [(15, 20)])]),
  (319, nt [0, 1, 2, 3, 4, 15] true false false [(1, [(2, 4)])]),
  (321, nt [0, 1, 2, 6, 7, 8, 9, 13, 30, 35, 54] true false false []),
  (322, nt [0, 1, 2, 3, 8, 9, 14, 34] true false false []),
  (330, nt [0, 1, 2, 3, 4, 6, 7, 8, 9, 10, 12, 18, 46, 49] true false false [(5, [(9, 12), (9, 13)]), (10, [(1, 9)])]),
  (331, nt [0, 1, 4] true false false []),
  (332, nt [0, 1, 2, 3, 4] true false false []),
  (338, nt [0, 2, 3, 8] true false false []),
  (339, nt [0, 1, 2, 4] true false false [(1, [(0, 3)])]),
  (358, nt [0, 2, 3, 4, 5] true false false []),
  (359, nt [0, 1, 2, 3, 6] true false false []),
  (361, nt [0, 1, 4, 5, 7, 8, 9, 16] true false false []),
  (362, nt [0, 1, 2, 3, 4] true false false [(1, [(2, 3)])]),
  (363, nt [0, 1, 4, 5, 7, 8, 9, 16] true false false []),
  (364, nt [0, 1, 2, 3, 4] true false false [(1, [(2, 3)])]),
  (367, nt [0, 1, 2, 3, 8, 9, 14, 34] true false false []),
  (374, nt [0, 1, 4, 5, 7, 8, 9, 16] true false false [])]
def noteT : FuncId → Note := fun f => (tabT.lookup f).getD offN
def clones : List FuncId := [139, 140, 141, 142, 143, 144, 145, 146, 203, 124]
def noteC : FuncId → Note := fun f => if clones.contains f then nt [0, 2, 4] false true false [] else offN

set_option maxRecDepth 100000
theorem goodT : Abs.Good Tryz.prog noteT := good_of (by kernel_rfl)
theorem goodC : Abs.Good Tryz.prog noteC := good_of (by kernel_rfl)
theorem mixedT : Tryz.prog.follows .mixedOrders = true := by kernel_rfl

theorem noHand_sound : Sound Tryz.prog (fun _ _ _ => none) := fun _ _ _ _ h => by cases h
def gv0 : FuncId → Option Nat := fun _ => none
theorem gv0_ok : ∀ f sz, gv0 f = some sz → Gives1 Tryz.prog f sz ∧ Entered Tryz.prog f := fun _ _ h => by cases h
def gvT : FuncId → Option Nat := fun f => if f = 213 then some 10 else none
theorem gvT_ok : ∀ f sz, gvT f = some sz → Gives1 Tryz.prog f sz ∧ Entered Tryz.prog f := by
  intro f sz h
  unfold gvT at h
  split at h
  · rename_i hf
    cases h
    subst hf
    exact ⟨backward1, entered Tryz.func213 rfl (by decide)⟩
  · cases h

theorem clone_ev : ∀ f ∈ clones, ∀ b, evF Tryz.prog noteC gv0 (fun _ _ _ => none) 10 3 f [.slc b] [] = some (.lst 0 [] true, [], []) := by
  intro f hf b
  simp only [clones, List.mem_cons, List.not_mem_nil, or_false] at hf
  rcases hf with rfl | rfl | rfl | rfl | rfl | rfl | rfl | rfl | rfl | rfl <;> cases b <;> kernel_rfl
theorem clone_c {f : FuncId} (hf : f ∈ clones) {sz : Nat} {t : Bool} : Entered Tryz.prog f ∧ Contract Tryz.prog f [.lst sz [] t] [] (.lst 0 [] true, [], []) := by
  have h := fun b => evF_sound gv0_ok goodC mixedT noHand_sound 3 f [.slc b] [] _ (clone_ev f hf b)
  exact ⟨(h true).1, contract_slc fun b => (h b).2⟩

def isEmptyRow : List AV → Bool
  | [.lst _ [] _] => true
  | _ => false
def hand1 : CL := fun f args sub => if clones.contains f && isEmptyRow args && sub.isEmpty then some (.lst 0 [] true, [], []) else if f == 120 then handK args sub else hand0 f args sub

theorem hand1_sound : Sound Tryz.prog hand1 := by
  intro f args sub out h
  unfold hand1 at h
  split at h
  · rename_i hc
    cases h
    simp only [Bool.and_eq_true, List.contains_iff_mem, List.isEmpty_iff] at hc
    obtain ⟨⟨h1, h2⟩, rfl⟩ := hc
    unfold isEmptyRow at h2
    split at h2
    · exact clone_c h1
    · cases h2
  · split at h
    · rename_i hf
      have hf : f = 120 := by simpa using hf
      subst hf
      exact ⟨entered Tryz.func120 rfl (by decide), handK_sound h⟩
    · exact hand0_sound f args sub out h

/-! ### The text of a list of statements -/

def stmtOf : AV → Option (Int × AV)
  | .agg [.int .i64 i, y] => if isRow y then some (i, y) else none
  | _ => none
def stmtsOf : List AV → Option (List (Int × AV))
  | [] => some []
  | x :: r => match stmtOf x, stmtsOf r with
    | some p, some l => some (p :: l)
    | _, _ => none
theorem stmtOf_eq {x : AV} {p : Int × AV} (h : stmtOf x = some p) : x = stmtAV p ∧ isRow p.2 = true := by
  unfold stmtOf at h
  split at h
  · split at h
    · rename_i hr; cases h; exact ⟨rfl, hr⟩
    · cases h
  · cases h
theorem stmtsOf_eq : ∀ {xs : List AV} {l : List (Int × AV)}, stmtsOf xs = some l → xs = l.map stmtAV ∧ l.all (fun p => isRow p.2) = true := by
  intro xs
  induction xs with
  | nil => intro l h; cases h; exact ⟨rfl, rfl⟩
  | cons x r ih =>
    intro l h
    simp only [stmtsOf] at h
    split at h
    · rename_i p l' hp hl
      cases h
      obtain ⟨h1, h2⟩ := stmtOf_eq hp
      obtain ⟨h3, h4⟩ := ih hl
      exact ⟨by rw [h1, h3]; rfl, by simp [h2, h4]⟩
    · cases h
def lineOf (call : CL) (p : Int × AV) : Option ByteArray := match call 87 [stmtAV p] [] with
  | some (.tup [.str s, .int .i64 0], [], []) => some s
  | _ => none
def linesOf (call : CL) : List (Int × AV) → Option (List ByteArray)
  | [] => some []
  | p :: r => match lineOf call p, linesOf call r with
    | some s, some l => some (s :: l)
    | _, _ => none
theorem lineOf_c {call : CL} (hc : Sound Tryz.prog call) {p : Int × AV} {s : ByteArray} (h : lineOf call p = some s) : Contract Tryz.prog 87 [stmtAV p] [] (.tup [.str s, .int .i64 0], [], []) := by
  unfold lineOf at h
  split at h
  · rename_i he; cases h; exact (hc _ _ _ _ he).2
  · cases h
theorem linesOf_c {call : CL} (hc : Sound Tryz.prog call) : ∀ {l : List (Int × AV)} {ts : List ByteArray}, linesOf call l = some ts → ts.length = l.length ∧ ∀ (k : Nat) (p : Int × AV), l[k]? = some p → Contract Tryz.prog 87 [stmtAV p] [] (.tup [.str (textOf ts k), .int .i64 0], [], []) := by
  intro l
  induction l with
  | nil => intro ts h; cases h; exact ⟨rfl, fun k p hp => by simp at hp⟩
  | cons q r ih =>
    intro ts h
    simp only [linesOf] at h
    split at h
    · rename_i s l' hs hl
      cases h
      obtain ⟨h1, h2⟩ := ih hl
      refine ⟨by simp [h1], fun k p hp => ?_⟩
      cases k with
      | zero => simp at hp; subst hp; exact lineOf_c hc hs
      | succ k => exact h2 k p (by simpa using hp)
    · cases h

def handX (call : CL) (args : List AV) : Option AV := match args with
  | [.lst sz xs _] => match stmtsOf xs with
    | some (p :: l) => match linesOf call (p :: l) with
      | some ts => if sz = 2 ∧ (lines ts).length ≤ 65536 then some (.tup [.str (mkB (lines ts)), .int .i64 0]) else none
      | none => none
    | _ => none
  | _ => none
theorem handX_c {call : CL} (hc : Sound Tryz.prog call) {args : List AV} {x : AV} {sub : List Blk} (h : handX call args = some x) : Contract Tryz.prog 35 args sub (x, sub.map some, []) := by
  unfold handX at h
  split at h
  · split at h
    · rename_i p l hs
      split at h
      · rename_i ts hl
        split at h
        · rename_i hz
          cases h
          obtain ⟨h1, h2⟩ := stmtsOf_eq hs
          obtain ⟨h3, h4⟩ := linesOf_c hc hl
          rw [h1]
          exact text_c (by simp) hz.1 h3 h2 hz.2 h4
        · cases h
      · cases h
    · cases h
  · cases h

def hand2 (call : CL) : CL := fun f args sub => if f == 35 then (handX call args).map fun x => (x, sub.map some, []) else hand1 f args sub
theorem hand2_sound {call : CL} (hc : Sound Tryz.prog call) : Sound Tryz.prog (hand2 call) := by
  intro f args sub out h
  unfold hand2 at h
  split at h
  · rename_i hf
    have hf : f = 35 := by simpa using hf
    subst hf
    obtain ⟨x, hx, rfl⟩ := Option.map_eq_some_iff.1 h
    exact ⟨entered Tryz.func35 rfl (by decide), handX_c hc hx⟩
  · exact hand1_sound f args sub out h

noncomputable def evT (hand : CL) (n d : Nat) : CL := evF Tryz.prog noteT gvT hand n d
theorem evT_sound {hand : CL} (hh : Sound Tryz.prog hand) (n d : Nat) : Sound Tryz.prog (evT hand n d) := evF_sound gvT_ok goodT mixedT hh d
end Go.Proofs.YtoihpnpfnechdaaGreatDoor
namespace Go.Proofs.YtoihpnpfnechdaaGreatDoor
open Go Go.Abs
def bs (l : List UInt8) : ByteArray := ⟨l.toArray⟩
def textA : AV := .str (bs [122, 111, 110, 101, 32, 104, 101, 114, 101, 32, 43, 48, 49, 58, 48, 48, 10, 112, 101, 114, 115, 111, 110, 32, 97, 100, 97, 32, 104, 101, 114, 101, 10, 112, 101, 114, 115, 111, 110, 32, 98, 111, 98, 32, 104, 101, 114, 101, 10, 115, 99, 104, 101, 100, 117, 108, 101, 32, 109, 97, 105, 110, 10, 108, 97, 121, 101, 114, 32, 98, 97, 115, 101, 32, 104, 101, 114, 101, 32, 50, 48, 50, 54, 45, 48, 49, 45, 48, 53, 32, 48, 56, 58, 48, 48, 32, 49, 32, 119, 101, 101, 107, 115, 10, 109, 101, 109, 98, 101, 114, 32, 97, 100, 97, 32, 98, 111, 98, 10])
def textB : AV := .str (bs [122, 111, 110, 101, 32, 104, 101, 114, 101, 32, 43, 48, 49, 58, 48, 48, 10, 112, 101, 114, 115, 111, 110, 32, 97, 100, 97, 32, 104, 101, 114, 101, 10, 112, 101, 114, 115, 111, 110, 32, 98, 111, 98, 32, 104, 101, 114, 101, 10, 115, 99, 104, 101, 100, 117, 108, 101, 32, 109, 97, 105, 110, 10, 108, 97, 121, 101, 114, 32, 98, 97, 115, 101, 32, 104, 101, 114, 101, 32, 50, 48, 50, 54, 45, 48, 49, 45, 48, 53, 32, 48, 56, 58, 48, 48, 32, 49, 32, 119, 101, 101, 107, 115, 10, 109, 101, 109, 98, 101, 114, 32, 97, 100, 97, 32, 98, 111, 98, 10, 111, 118, 101, 114, 114, 105, 100, 101, 32, 98, 111, 98, 32, 50, 48, 50, 54, 45, 48, 49, 45, 48, 54, 84, 49, 50, 58, 48, 48, 58, 48, 48, 90, 32, 50, 48, 50, 54, 45, 48, 49, 45, 48, 54, 84, 49, 51, 58, 48, 48, 58, 48, 48, 90, 10])
def cfgA : AV := .agg [.lst 3 [.agg [.str (bs [104, 101, 114, 101]), .int .i64 3600, .lst 0 [] false]] false, .lst 6 [.agg [.str (bs [97, 100, 97]), .int .i64 0, .lst 0 [] false, .int .i64 0, .int .i64 0, .bool false], .agg [.str (bs [98, 111, 98]), .int .i64 0, .lst 0 [] false, .int .i64 0, .int .i64 0, .bool false]] false, .lst 0 [] false, .lst 3 [.agg [.str (bs [109, 97, 105, 110]), .lst 10 [.agg [.str (bs [98, 97, 115, 101]), .int .i64 0, .int .i64 20458, .int .i64 28800, .int .i64 2, .int .i64 1, .lst 1 [.int .i64 0, .int .i64 1] false, .lst 0 [] false, .int .i64 0, .int .i64 0]] false, .lst 0 [] false]] false]
def cfgB : AV := .agg [.lst 3 [.agg [.str (bs [104, 101, 114, 101]), .int .i64 3600, .lst 0 [] false]] false, .lst 6 [.agg [.str (bs [97, 100, 97]), .int .i64 0, .lst 0 [] false, .int .i64 0, .int .i64 0, .bool false], .agg [.str (bs [98, 111, 98]), .int .i64 0, .lst 0 [] false, .int .i64 0, .int .i64 0, .bool false]] false, .lst 0 [] false, .lst 3 [.agg [.str (bs [109, 97, 105, 110]), .lst 10 [.agg [.str (bs [98, 97, 115, 101]), .int .i64 0, .int .i64 20458, .int .i64 28800, .int .i64 2, .int .i64 1, .lst 1 [.int .i64 0, .int .i64 1] false, .lst 0 [] false, .int .i64 0, .int .i64 0]] false, .lst 5 [.agg [.int .i64 1, .int .i64 1, .int .i64 0, .int .i64 1767700800, .int .i64 1767704400]] false]] false]
def lnA0 : AV := .str (bs [122, 111, 110, 101, 32, 104, 101, 114, 101, 32, 43, 48, 49, 58, 48, 48])
def tkA0 : AV := .lst 3 [.agg [.int .i64 0, .str (bs [122, 111, 110, 101]), .int .i64 0], .agg [.int .i64 0, .str (bs [104, 101, 114, 101]), .int .i64 0], .agg [.int .i64 4, .str (bs []), .int .i64 3600]] false
def lnA1 : AV := .str (bs [112, 101, 114, 115, 111, 110, 32, 97, 100, 97, 32, 104, 101, 114, 101])
def tkA1 : AV := .lst 3 [.agg [.int .i64 0, .str (bs [112, 101, 114, 115, 111, 110]), .int .i64 0], .agg [.int .i64 0, .str (bs [97, 100, 97]), .int .i64 0], .agg [.int .i64 0, .str (bs [104, 101, 114, 101]), .int .i64 0]] false
def lnA2 : AV := .str (bs [112, 101, 114, 115, 111, 110, 32, 98, 111, 98, 32, 104, 101, 114, 101])
def tkA2 : AV := .lst 3 [.agg [.int .i64 0, .str (bs [112, 101, 114, 115, 111, 110]), .int .i64 0], .agg [.int .i64 0, .str (bs [98, 111, 98]), .int .i64 0], .agg [.int .i64 0, .str (bs [104, 101, 114, 101]), .int .i64 0]] false
def lnA3 : AV := .str (bs [115, 99, 104, 101, 100, 117, 108, 101, 32, 109, 97, 105, 110])
def tkA3 : AV := .lst 3 [.agg [.int .i64 0, .str (bs [115, 99, 104, 101, 100, 117, 108, 101]), .int .i64 0], .agg [.int .i64 0, .str (bs [109, 97, 105, 110]), .int .i64 0]] false
def lnA4 : AV := .str (bs [108, 97, 121, 101, 114, 32, 98, 97, 115, 101, 32, 104, 101, 114, 101, 32, 50, 48, 50, 54, 45, 48, 49, 45, 48, 53, 32, 48, 56, 58, 48, 48, 32, 49, 32, 119, 101, 101, 107, 115])
def tkA4 : AV := .lst 3 [.agg [.int .i64 0, .str (bs [108, 97, 121, 101, 114]), .int .i64 0], .agg [.int .i64 0, .str (bs [98, 97, 115, 101]), .int .i64 0], .agg [.int .i64 0, .str (bs [104, 101, 114, 101]), .int .i64 0], .agg [.int .i64 3, .str (bs []), .int .i64 20458], .agg [.int .i64 2, .str (bs []), .int .i64 28800], .agg [.int .i64 1, .str (bs []), .int .i64 1], .agg [.int .i64 0, .str (bs [119, 101, 101, 107, 115]), .int .i64 0]] false
def lnA5 : AV := .str (bs [109, 101, 109, 98, 101, 114, 32, 97, 100, 97, 32, 98, 111, 98])
def tkA5 : AV := .lst 3 [.agg [.int .i64 0, .str (bs [109, 101, 109, 98, 101, 114]), .int .i64 0], .agg [.int .i64 0, .str (bs [97, 100, 97]), .int .i64 0], .agg [.int .i64 0, .str (bs [98, 111, 98]), .int .i64 0]] false
def lnA6 : AV := .str (bs [])
def tkA6 : AV := .lst 0 [] false
def lnA9 : AV := .str (bs [111, 118, 101, 114, 114, 105, 100, 101, 32, 98, 111, 98, 32, 50, 48, 50, 54, 45, 48, 49, 45, 48, 54, 84, 49, 50, 58, 48, 48, 58, 48, 48, 90, 32, 50, 48, 50, 54, 45, 48, 49, 45, 48, 54, 84, 49, 51, 58, 48, 48, 58, 48, 48, 90])
def tkA9 : AV := .lst 3 [.agg [.int .i64 0, .str (bs [111, 118, 101, 114, 114, 105, 100, 101]), .int .i64 0], .agg [.int .i64 0, .str (bs [98, 111, 98]), .int .i64 0], .agg [.int .i64 5, .str (bs []), .int .i64 1767700800], .agg [.int .i64 5, .str (bs []), .int .i64 1767704400]] false
def stmA : AV := .tup [.lst 2 [.agg [.int .i64 1, .lst 3 [.agg [.int .i64 0, .str (bs [122, 111, 110, 101]), .int .i64 0], .agg [.int .i64 0, .str (bs [104, 101, 114, 101]), .int .i64 0], .agg [.int .i64 4, .str (bs []), .int .i64 3600]] false], .agg [.int .i64 2, .lst 3 [.agg [.int .i64 0, .str (bs [112, 101, 114, 115, 111, 110]), .int .i64 0], .agg [.int .i64 0, .str (bs [97, 100, 97]), .int .i64 0], .agg [.int .i64 0, .str (bs [104, 101, 114, 101]), .int .i64 0]] false], .agg [.int .i64 3, .lst 3 [.agg [.int .i64 0, .str (bs [112, 101, 114, 115, 111, 110]), .int .i64 0], .agg [.int .i64 0, .str (bs [98, 111, 98]), .int .i64 0], .agg [.int .i64 0, .str (bs [104, 101, 114, 101]), .int .i64 0]] false], .agg [.int .i64 4, .lst 3 [.agg [.int .i64 0, .str (bs [115, 99, 104, 101, 100, 117, 108, 101]), .int .i64 0], .agg [.int .i64 0, .str (bs [109, 97, 105, 110]), .int .i64 0]] false], .agg [.int .i64 5, .lst 3 [.agg [.int .i64 0, .str (bs [108, 97, 121, 101, 114]), .int .i64 0], .agg [.int .i64 0, .str (bs [98, 97, 115, 101]), .int .i64 0], .agg [.int .i64 0, .str (bs [104, 101, 114, 101]), .int .i64 0], .agg [.int .i64 3, .str (bs []), .int .i64 20458], .agg [.int .i64 2, .str (bs []), .int .i64 28800], .agg [.int .i64 1, .str (bs []), .int .i64 1], .agg [.int .i64 0, .str (bs [119, 101, 101, 107, 115]), .int .i64 0]] false], .agg [.int .i64 6, .lst 3 [.agg [.int .i64 0, .str (bs [109, 101, 109, 98, 101, 114]), .int .i64 0], .agg [.int .i64 0, .str (bs [97, 100, 97]), .int .i64 0], .agg [.int .i64 0, .str (bs [98, 111, 98]), .int .i64 0]] false]] false, .int .i64 0, .int .i64 0]
def tabL : List (FuncId × List AV × AV) := [(97, [lnA0], .tup [tkA0, .int .i64 0]), (97, [lnA1], .tup [tkA1, .int .i64 0]), (97, [lnA2], .tup [tkA2, .int .i64 0]), (97, [lnA3], .tup [tkA3, .int .i64 0]), (97, [lnA4], .tup [tkA4, .int .i64 0]), (97, [lnA5], .tup [tkA5, .int .i64 0]), (97, [lnA6], .tup [tkA6, .int .i64 0])]
def tabW : List (FuncId × List AV × AV) := [(87, [.agg [.int .i64 1, tkA0]], .tup [lnA0, .int .i64 0]), (87, [.agg [.int .i64 2, tkA1]], .tup [lnA1, .int .i64 0]), (87, [.agg [.int .i64 3, tkA2]], .tup [lnA2, .int .i64 0]), (87, [.agg [.int .i64 4, tkA3]], .tup [lnA3, .int .i64 0]), (87, [.agg [.int .i64 5, tkA4]], .tup [lnA4, .int .i64 0]), (87, [.agg [.int .i64 6, tkA5]], .tup [lnA5, .int .i64 0]), (87, [.agg [.int .i64 7, tkA9]], .tup [lnA9, .int .i64 0])]
def tabZ : List (FuncId × List AV × AV) := [(18, [textA], .tup [cfgA, .int .i64 0, .int .i64 0]),
  (15, [cfgA, .int .i64 0, .agg [.int .i64 1, .int .i64 1, .int .i64 0, .int .i64 1767700800, .int .i64 1767704400]], .tup [cfgB, .int .i64 0]),
  (16, [cfgB], .tup [textB, .int .i64 0]),
  (21, [cfgB, .int .i64 0, .int .i64 1767700800], .tup [.int .i64 0, .bool true, .int .i64 0]),
  (22, [cfgB, .int .i64 0, .int .i64 1767700800, .int .i64 1767708000, .int .i64 0, .lst 0 [] false], .tup [.lst 3 [.agg [.int .i64 0, .int .i64 3600, .int .i64 3600], .agg [.int .i64 1, .int .i64 3600, .int .i64 3600]] false, .int .i64 0]),
  (23, [cfgA, .int .i64 0, .int .i64 1767700800], .int .i64 0),
  (23, [cfgB, .int .i64 0, .int .i64 1767700800], .int .i64 1)]
end Go.Proofs.YtoihpnpfnechdaaGreatDoor
