/-
  DERIVED: THE SHELF's CONTRACTS AT THIS DUMP, IN PLAIN WORDS (tools/lay-plain.mjs out of 'YtailgbhadhoedaaTryShelf.lean', which tools/lay-shelf.mjs wrote): THE SAME DECLARATIONS UNDER THE SAME NAMES: 'import', 'namespace', 'open', 'def', 'theorem' AND NOTHING ELSE: no command of the shelf's: FOR A HAND-IN. Each laying: the table of numbers ('.._ren') and one theorem, a field a fact of the dump's own or the kernel's comparison; each contract: ONE APPLICATION.
-/
import Derived.Shelf.SlGeneric
import Derived.Shelf.SlSortCmp.WholeK
import Derived.Shelf.Slices.Reverse
import Derived.Ground.SlsfProg
import Derived.Ground.NamesProg
import Derived.Test.YtailgbhadhoedaaProg
namespace Go.Proofs
open Go.Shelf
def Try.sortT_ren : Go.Shelf.Ren := ⟨fun | 6 => 99 | 15 => 103 | 14 => 102 | 28 => 113 | 29 => 114 | 20 => 105 | 21 => 106 | 22 => 107 | 23 => 108 | 24 => 109 | 25 => 110 | 26 => 111 | 27 => 112 | 46 => 116 | 47 => 117 | 48 => 118 | 49 => 119 | 50 => 120 | 57 => 121 | n => n, fun | 22 => 102 | 24 => 108 | 25 => 127 | 3 => 3 | 39 => 130 | 0 => 0 | 53 => 139 | 55 => 141 | 4 => 4 | 46 => 133 | 45 => 132 | 50 => 105 | 5 => 5 | 9 => 9 | 66 => 142 | 70 => 146 | 76 => 148 | 77 => 149 | n => n, fun | n => n⟩
theorem Try.sortT : Go.Proofs.SlLaysF0.n6 Try.prog Try.sortT_ren := {
  mixed := by kernel_rfl
  f6 := ⟨Try.f99.name, by decide, Try.func99.trans (congrArg some (by kernel_rfl))⟩
  f14 := ⟨Try.f102.name, by decide, Try.func102.trans (congrArg some (by kernel_rfl))⟩
  f15 := Try.func103.trans (congrArg some (by kernel_rfl))
  f20 := ⟨Try.f105.name, by decide, Try.func105.trans (congrArg some (by kernel_rfl))⟩
  f21 := ⟨Try.f106.name, by decide, Try.func106.trans (congrArg some (by kernel_rfl))⟩
  f22 := ⟨Try.f107.name, by decide, Try.func107.trans (congrArg some (by kernel_rfl))⟩
  f23 := ⟨Try.f108.name, by decide, Try.func108.trans (congrArg some (by kernel_rfl))⟩
  f24 := ⟨Try.f109.name, by decide, Try.func109.trans (congrArg some (by kernel_rfl))⟩
  f25 := ⟨Try.f110.name, by decide, Try.func110.trans (congrArg some (by kernel_rfl))⟩
  f26 := ⟨Try.f111.name, by decide, Try.func111.trans (congrArg some (by kernel_rfl))⟩
  f27 := ⟨Try.f112.name, by decide, Try.func112.trans (congrArg some (by kernel_rfl))⟩
  f28 := Try.func113.trans (congrArg some (by kernel_rfl))
  f29 := Try.func114.trans (congrArg some (by kernel_rfl))
  f46 := ⟨Try.f116.name, by decide, Try.func116.trans (congrArg some (by kernel_rfl))⟩
  f47 := Try.func117.trans (congrArg some (by kernel_rfl))
  f48 := Try.func118.trans (congrArg some (by kernel_rfl))
  f49 := ⟨Try.f119.name, by decide, Try.func119.trans (congrArg some (by kernel_rfl))⟩
  f50 := ⟨Try.f120.name, by decide, Try.func120.trans (congrArg some (by kernel_rfl))⟩
  f57 := ⟨Try.f121.name, by decide, Try.func121.trans (congrArg some (by kernel_rfl))⟩
  t0 := Try.underlying0
  a0 := Try.isAgg0
  z0 := Try.sizeOf0
  v0 := Try.zeroValue0
  t3 := Try.underlying3
  a3 := Try.isAgg3
  z3 := Try.sizeOf3
  v3 := Try.zeroValue3
  t4 := Try.underlying4
  a4 := Try.isAgg4
  z4 := Try.sizeOf4
  v4 := Try.zeroValue4
  t5 := Try.underlying5
  a5 := Try.isAgg5
  z5 := Try.sizeOf5
  v5 := Try.zeroValue5
  t9 := Try.underlying9
  a9 := Try.isAgg9
  z9 := Try.sizeOf9
  v9 := Try.zeroValue9
  t22 := Try.underlying102
  a22 := Try.isAgg102
  z22 := Try.sizeOf102
  v22 := Try.zeroValue102
  t25 := Try.underlying127
  a25 := Try.isAgg127
  z25 := Try.sizeOf127
  v25 := Try.zeroValue127
  t39 := Try.underlying130
  a39 := Try.isAgg130
  z39 := Try.sizeOf130
  v39 := Try.zeroValue130
  t45 := Try.underlying132
  a45 := Try.isAgg132
  z45 := Try.sizeOf132
  v45 := Try.zeroValue132
  t46 := Try.underlying133
  a46 := Try.isAgg133
  z46 := Try.sizeOf133
  v46 := Try.zeroValue133
  t50 := Try.underlying105
  a50 := Try.isAgg105
  z50 := Try.sizeOf105
  v50 := Try.zeroValue105
  t53 := Try.underlying139
  a53 := Try.isAgg139
  z53 := Try.sizeOf139
  v53 := Try.zeroValue139
  t55 := Try.underlying141
  a55 := Try.isAgg141
  z55 := Try.sizeOf141
  v55 := Try.zeroValue141
  t66 := Try.underlying142
  a66 := Try.isAgg142
  z66 := Try.sizeOf142
  v66 := Try.zeroValue142
  t70 := Try.underlying146
  a70 := Try.isAgg146
  z70 := Try.sizeOf146
  v70 := Try.zeroValue146
  t76 := Try.underlying148
  a76 := Try.isAgg148
  z76 := Try.sizeOf148
  v76 := Try.zeroValue148
  t77 := Try.underlying149
  a77 := Try.isAgg149
  z77 := Try.sizeOf149
  v77 := Try.zeroValue149 }
def Try.revT_ren : Go.Shelf.Ren := ⟨fun | 112 => 90 | n => n, fun | 28 => 22 | 3 => 3 | 4 => 4 | 0 => 0 | n => n, fun | n => n⟩
theorem Try.revT : Go.Proofs.Lays.n112 Try.prog Try.revT_ren := {
  mixed := by kernel_rfl
  f112 := Try.func90.trans (congrArg some (by kernel_rfl))
  t0 := Try.underlying0
  a0 := Try.isAgg0
  z0 := Try.sizeOf0
  v0 := Try.zeroValue0
  t3 := Try.underlying3
  a3 := Try.isAgg3
  z3 := Try.sizeOf3
  v3 := Try.zeroValue3
  t4 := Try.underlying4
  a4 := Try.isAgg4
  z4 := Try.sizeOf4
  v4 := Try.zeroValue4
  t28 := Try.underlying22
  a28 := Try.isAgg22
  z28 := Try.sizeOf22
  v28 := Try.zeroValue22 }
end Go.Proofs
