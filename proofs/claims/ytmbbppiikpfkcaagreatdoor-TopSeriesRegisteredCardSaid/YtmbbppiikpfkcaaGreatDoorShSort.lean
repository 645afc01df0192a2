/- slices.SortFunc AT THIS TRANSLATION: what the guide's library proves once over any program, applied here. -/
import Derived.Shelf.SlGeneric
import Derived.Shelf.SlLaysF0
import Derived.Ground.SlsfProg
import Derived.Test.YtmbbppiikpfkcaaGreatDoorProg
namespace Go.Proofs
open Go.Shelf
def Tryz.sortW_ren : Go.Shelf.Ren := ⟨fun | 6 => 41 | 15 => 69 | 14 => 68 | 28 => 112 | 29 => 113 | 20 => 104 | 21 => 105 | 22 => 106 | 23 => 107 | 24 => 108 | 25 => 109 | 26 => 110 | 27 => 111 | 46 => 142 | 47 => 143 | 48 => 144 | 49 => 145 | 50 => 146 | 57 => 163 | n => n, fun | 22 => 30 | 24 => 55 | 25 => 94 | 3 => 3 | 39 => 121 | 0 => 0 | 53 => 164 | 55 => 166 | 4 => 4 | 46 => 158 | 45 => 157 | 50 => 63 | 5 => 5 | 9 => 9 | 66 => 189 | 70 => 128 | 76 => 206 | 77 => 207 | n => n, fun | n => n⟩
theorem Tryz.sortW : Go.Proofs.SlLaysF0.n6 Tryz.prog Tryz.sortW_ren := {
  mixed := by kernel_rfl
  f6 := ⟨Tryz.f41.name, by decide, Tryz.func41.trans (congrArg some (by kernel_rfl))⟩
  f14 := ⟨Tryz.f68.name, by decide, Tryz.func68.trans (congrArg some (by kernel_rfl))⟩
  f15 := Tryz.func69.trans (congrArg some (by kernel_rfl))
  f20 := ⟨Tryz.f104.name, by decide, Tryz.func104.trans (congrArg some (by kernel_rfl))⟩
  f21 := ⟨Tryz.f105.name, by decide, Tryz.func105.trans (congrArg some (by kernel_rfl))⟩
  f22 := ⟨Tryz.f106.name, by decide, Tryz.func106.trans (congrArg some (by kernel_rfl))⟩
  f23 := ⟨Tryz.f107.name, by decide, Tryz.func107.trans (congrArg some (by kernel_rfl))⟩
  f24 := ⟨Tryz.f108.name, by decide, Tryz.func108.trans (congrArg some (by kernel_rfl))⟩
  f25 := ⟨Tryz.f109.name, by decide, Tryz.func109.trans (congrArg some (by kernel_rfl))⟩
  f26 := ⟨Tryz.f110.name, by decide, Tryz.func110.trans (congrArg some (by kernel_rfl))⟩
  f27 := ⟨Tryz.f111.name, by decide, Tryz.func111.trans (congrArg some (by kernel_rfl))⟩
  f28 := Tryz.func112.trans (congrArg some (by kernel_rfl))
  f29 := Tryz.func113.trans (congrArg some (by kernel_rfl))
  f46 := ⟨Tryz.f142.name, by decide, Tryz.func142.trans (congrArg some (by kernel_rfl))⟩
  f47 := Tryz.func143.trans (congrArg some (by kernel_rfl))
  f48 := Tryz.func144.trans (congrArg some (by kernel_rfl))
  f49 := ⟨Tryz.f145.name, by decide, Tryz.func145.trans (congrArg some (by kernel_rfl))⟩
  f50 := ⟨Tryz.f146.name, by decide, Tryz.func146.trans (congrArg some (by kernel_rfl))⟩
  f57 := ⟨Tryz.f163.name, by decide, Tryz.func163.trans (congrArg some (by kernel_rfl))⟩
  t0 := Tryz.underlying0
  a0 := Tryz.isAgg0
  z0 := Tryz.sizeOf0
  v0 := Tryz.zeroValue0
  t3 := Tryz.underlying3
  a3 := Tryz.isAgg3
  z3 := Tryz.sizeOf3
  v3 := Tryz.zeroValue3
  t4 := Tryz.underlying4
  a4 := Tryz.isAgg4
  z4 := Tryz.sizeOf4
  v4 := Tryz.zeroValue4
  t5 := Tryz.underlying5
  a5 := Tryz.isAgg5
  z5 := Tryz.sizeOf5
  v5 := Tryz.zeroValue5
  t9 := Tryz.underlying9
  a9 := Tryz.isAgg9
  z9 := Tryz.sizeOf9
  v9 := Tryz.zeroValue9
  t22 := Tryz.underlying30
  a22 := Tryz.isAgg30
  z22 := Tryz.sizeOf30
  v22 := Tryz.zeroValue30
  t25 := Tryz.underlying94
  a25 := Tryz.isAgg94
  z25 := Tryz.sizeOf94
  v25 := Tryz.zeroValue94
  t39 := Tryz.underlying121
  a39 := Tryz.isAgg121
  z39 := Tryz.sizeOf121
  v39 := Tryz.zeroValue121
  t45 := Tryz.underlying157
  a45 := Tryz.isAgg157
  z45 := Tryz.sizeOf157
  v45 := Tryz.zeroValue157
  t46 := Tryz.underlying158
  a46 := Tryz.isAgg158
  z46 := Tryz.sizeOf158
  v46 := Tryz.zeroValue158
  t50 := Tryz.underlying63
  a50 := Tryz.isAgg63
  z50 := Tryz.sizeOf63
  v50 := Tryz.zeroValue63
  t53 := Tryz.underlying164
  a53 := Tryz.isAgg164
  z53 := Tryz.sizeOf164
  v53 := Tryz.zeroValue164
  t55 := Tryz.underlying166
  a55 := Tryz.isAgg166
  z55 := Tryz.sizeOf166
  v55 := Tryz.zeroValue166
  t66 := Tryz.underlying189
  a66 := Tryz.isAgg189
  z66 := Tryz.sizeOf189
  v66 := Tryz.zeroValue189
  t70 := Tryz.underlying128
  a70 := Tryz.isAgg128
  z70 := Tryz.sizeOf128
  v70 := Tryz.zeroValue128
  t76 := Tryz.underlying206
  a76 := Tryz.isAgg206
  z76 := Tryz.sizeOf206
  v76 := Tryz.zeroValue206
  t77 := Tryz.underlying207
  a77 := Tryz.isAgg207
  z77 := Tryz.sizeOf207
  v77 := Tryz.zeroValue207 }
end Go.Proofs
