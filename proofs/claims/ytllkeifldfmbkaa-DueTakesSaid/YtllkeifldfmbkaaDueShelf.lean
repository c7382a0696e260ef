/-
  DERIVED: THE SHELF's CONTRACTS AT THIS DUMP, IN PLAIN WORDS 
-/
import Derived.Shelf.SlGeneric
import Derived.Shelf.SlSortCmp.NoneTotal
import Derived.Ground.SlsfProg
import Derived.Test.YtllkeifldfmbkaaProg
namespace Go.Proofs
open Go.Shelf
def Try.sortN_ren : Go.Shelf.Ren := ⟨fun | 6 => 56 | 15 => 64 | 14 => 66 | 28 => 78 | 29 => 79 | 20 => 80 | 21 => 81 | 22 => 82 | 23 => 83 | 24 => 84 | 25 => 85 | 26 => 86 | 27 => 87 | 46 => 93 | 47 => 89 | 48 => 90 | 49 => 94 | 50 => 95 | 57 => 97 | n => n, fun | 22 => 95 | 24 => 99 | 25 => 110 | 3 => 3 | 39 => 134 | 0 => 0 | 53 => 149 | 55 => 151 | 4 => 4 | 46 => 141 | 45 => 140 | 50 => 146 | 5 => 5 | 9 => 9 | 66 => 157 | 70 => 161 | 76 => 165 | 77 => 166 | n => n, fun | n => n⟩
theorem Try.sortN : Go.Proofs.SlLaysF.n6 Try.prog Try.sortN_ren := {
  mixed := by kernel_rfl
  f6 := ⟨Try.f56.name, by decide, Try.func56.trans (congrArg some (by kernel_rfl))⟩
  f14 := ⟨Try.f66.name, by decide, Try.func66.trans (congrArg some (by kernel_rfl))⟩
  f15 := Try.func64.trans (congrArg some (by kernel_rfl))
  f20 := ⟨Try.f80.name, by decide, Try.func80.trans (congrArg some (by kernel_rfl))⟩
  f21 := ⟨Try.f81.name, by decide, Try.func81.trans (congrArg some (by kernel_rfl))⟩
  f22 := ⟨Try.f82.name, by decide, Try.func82.trans (congrArg some (by kernel_rfl))⟩
  f23 := ⟨Try.f83.name, by decide, Try.func83.trans (congrArg some (by kernel_rfl))⟩
  f24 := ⟨Try.f84.name, by decide, Try.func84.trans (congrArg some (by kernel_rfl))⟩
  f25 := ⟨Try.f85.name, by decide, Try.func85.trans (congrArg some (by kernel_rfl))⟩
  f26 := ⟨Try.f86.name, by decide, Try.func86.trans (congrArg some (by kernel_rfl))⟩
  f27 := ⟨Try.f87.name, by decide, Try.func87.trans (congrArg some (by kernel_rfl))⟩
  f28 := Try.func78.trans (congrArg some (by kernel_rfl))
  f29 := Try.func79.trans (congrArg some (by kernel_rfl))
  f46 := ⟨Try.f93.name, by decide, Try.func93.trans (congrArg some (by kernel_rfl))⟩
  f47 := Try.func89.trans (congrArg some (by kernel_rfl))
  f48 := Try.func90.trans (congrArg some (by kernel_rfl))
  f49 := ⟨Try.f94.name, by decide, Try.func94.trans (congrArg some (by kernel_rfl))⟩
  f50 := ⟨Try.f95.name, by decide, Try.func95.trans (congrArg some (by kernel_rfl))⟩
  f57 := ⟨Try.f97.name, by decide, Try.func97.trans (congrArg some (by kernel_rfl))⟩
  t0 := Try.underlying0
  a0 := Try.isAgg0
  z0 := Try.sizeOf0
  v0 := Try.zeroValue0
  t3 := Try.underlying3
  a3 := Try.isAgg3
  z3 := Try.sizeOf3
  v3 := Try.zeroValue3
  t4 := Try.underlying4
  a4 := Try.isAgg4
  z4 := Try.sizeOf4
  v4 := Try.zeroValue4
  t5 := Try.underlying5
  a5 := Try.isAgg5
  z5 := Try.sizeOf5
  v5 := Try.zeroValue5
  t9 := Try.underlying9
  a9 := Try.isAgg9
  z9 := Try.sizeOf9
  v9 := Try.zeroValue9
  t22 := Try.underlying95
  a22 := Try.isAgg95
  z22 := Try.sizeOf95
  v22 := Try.zeroValue95
  a24 := Try.isAgg99
  z24 := Try.sizeOf99
  t25 := Try.underlying110
  a25 := Try.isAgg110
  z25 := Try.sizeOf110
  v25 := Try.zeroValue110
  t39 := Try.underlying134
  a39 := Try.isAgg134
  z39 := Try.sizeOf134
  v39 := Try.zeroValue134
  t45 := Try.underlying140
  a45 := Try.isAgg140
  z45 := Try.sizeOf140
  v45 := Try.zeroValue140
  t46 := Try.underlying141
  a46 := Try.isAgg141
  z46 := Try.sizeOf141
  v46 := Try.zeroValue141
  t50 := Try.underlying146
  a50 := Try.isAgg146
  z50 := Try.sizeOf146
  v50 := Try.zeroValue146
  t53 := Try.underlying149
  a53 := Try.isAgg149
  z53 := Try.sizeOf149
  v53 := Try.zeroValue149
  t55 := Try.underlying151
  a55 := Try.isAgg151
  z55 := Try.sizeOf151
  v55 := Try.zeroValue151
  t66 := Try.underlying157
  a66 := Try.isAgg157
  z66 := Try.sizeOf157
  v66 := Try.zeroValue157
  t70 := Try.underlying161
  a70 := Try.isAgg161
  z70 := Try.sizeOf161
  v70 := Try.zeroValue161
  t76 := Try.underlying165
  a76 := Try.isAgg165
  z76 := Try.sizeOf165
  v76 := Try.zeroValue165
  t77 := Try.underlying166
  a77 := Try.isAgg166
  z77 := Try.sizeOf166
  v77 := Try.zeroValue166 }
end Go.Proofs
