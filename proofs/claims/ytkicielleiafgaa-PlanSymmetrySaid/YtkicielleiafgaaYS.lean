/-
  DERIVED: THE SHELF's CONTRACTS AT THIS DUMP, IN PLAIN WORDS (tools/lay-plain.mjs out of 'YtkicielleiafgaaYSraw.lean', which tools/lay-shelf.mjs wrote): THE SAME DECLARATIONS UNDER THE SAME NAMES: 'import', 'namespace', 'open', 'def', 'theorem' AND NOTHING ELSE: no command of the shelf's: FOR A HAND-IN. Each laying: the table of numbers ('.._ren') and one theorem, a field a fact of the dump's own or the kernel's comparison; each contract: ONE APPLICATION.
-/
import Derived.Shelf.SlSortCmp.NoneTotal
import Derived.Shelf.SlGeneric
import Derived.Ground.SlsfProg
import Derived.Test.YtkicielleiafgaaProg
namespace Go.Proofs
open Go.Shelf
def Try.sortBdYtkicielleiafgaa_ren : Go.Shelf.Ren := ⟨fun | 6 => 128 | 15 => 134 | 14 => 133 | 28 => 144 | 29 => 145 | 20 => 136 | 21 => 137 | 22 => 138 | 23 => 139 | 24 => 140 | 25 => 141 | 26 => 142 | 27 => 143 | 46 => 146 | 47 => 147 | 48 => 148 | 49 => 149 | 50 => 150 | 57 => 151 | n => n, fun | 22 => 165 | 24 => 169 | 25 => 176 | 3 => 3 | 39 => 180 | 0 => 0 | 53 => 190 | 55 => 192 | 4 => 4 | 46 => 183 | 45 => 182 | 50 => 187 | 5 => 5 | 9 => 9 | 66 => 193 | 70 => 197 | 76 => 199 | 77 => 200 | n => n, fun | n => n⟩
theorem Try.sortBdYtkicielleiafgaa : Go.Proofs.SlLaysF0.n6 Try.prog Try.sortBdYtkicielleiafgaa_ren := {
  mixed := by kernel_rfl
  f6 := ⟨Try.f128.name, by decide, Try.func128.trans (congrArg some (by kernel_rfl))⟩
  f14 := ⟨Try.f133.name, by decide, Try.func133.trans (congrArg some (by kernel_rfl))⟩
  f15 := Try.func134.trans (congrArg some (by kernel_rfl))
  f20 := ⟨Try.f136.name, by decide, Try.func136.trans (congrArg some (by kernel_rfl))⟩
  f21 := ⟨Try.f137.name, by decide, Try.func137.trans (congrArg some (by kernel_rfl))⟩
  f22 := ⟨Try.f138.name, by decide, Try.func138.trans (congrArg some (by kernel_rfl))⟩
  f23 := ⟨Try.f139.name, by decide, Try.func139.trans (congrArg some (by kernel_rfl))⟩
  f24 := ⟨Try.f140.name, by decide, Try.func140.trans (congrArg some (by kernel_rfl))⟩
  f25 := ⟨Try.f141.name, by decide, Try.func141.trans (congrArg some (by kernel_rfl))⟩
  f26 := ⟨Try.f142.name, by decide, Try.func142.trans (congrArg some (by kernel_rfl))⟩
  f27 := ⟨Try.f143.name, by decide, Try.func143.trans (congrArg some (by kernel_rfl))⟩
  f28 := Try.func144.trans (congrArg some (by kernel_rfl))
  f29 := Try.func145.trans (congrArg some (by kernel_rfl))
  f46 := ⟨Try.f146.name, by decide, Try.func146.trans (congrArg some (by kernel_rfl))⟩
  f47 := Try.func147.trans (congrArg some (by kernel_rfl))
  f48 := Try.func148.trans (congrArg some (by kernel_rfl))
  f49 := ⟨Try.f149.name, by decide, Try.func149.trans (congrArg some (by kernel_rfl))⟩
  f50 := ⟨Try.f150.name, by decide, Try.func150.trans (congrArg some (by kernel_rfl))⟩
  f57 := ⟨Try.f151.name, by decide, Try.func151.trans (congrArg some (by kernel_rfl))⟩
  t0 := Try.underlying0
  a0 := Try.isAgg0
  z0 := Try.sizeOf0
  v0 := Try.zeroValue0
  t3 := Try.underlying3
  a3 := Try.isAgg3
  z3 := Try.sizeOf3
  v3 := Try.zeroValue3
  t4 := Try.underlying4
  a4 := Try.isAgg4
  z4 := Try.sizeOf4
  v4 := Try.zeroValue4
  t5 := Try.underlying5
  a5 := Try.isAgg5
  z5 := Try.sizeOf5
  v5 := Try.zeroValue5
  t9 := Try.underlying9
  a9 := Try.isAgg9
  z9 := Try.sizeOf9
  v9 := Try.zeroValue9
  t22 := Try.underlying165
  a22 := Try.isAgg165
  z22 := Try.sizeOf165
  v22 := Try.zeroValue165
  t25 := Try.underlying176
  a25 := Try.isAgg176
  z25 := Try.sizeOf176
  v25 := Try.zeroValue176
  t39 := Try.underlying180
  a39 := Try.isAgg180
  z39 := Try.sizeOf180
  v39 := Try.zeroValue180
  t45 := Try.underlying182
  a45 := Try.isAgg182
  z45 := Try.sizeOf182
  v45 := Try.zeroValue182
  t46 := Try.underlying183
  a46 := Try.isAgg183
  z46 := Try.sizeOf183
  v46 := Try.zeroValue183
  t50 := Try.underlying187
  a50 := Try.isAgg187
  z50 := Try.sizeOf187
  v50 := Try.zeroValue187
  t53 := Try.underlying190
  a53 := Try.isAgg190
  z53 := Try.sizeOf190
  v53 := Try.zeroValue190
  t55 := Try.underlying192
  a55 := Try.isAgg192
  z55 := Try.sizeOf192
  v55 := Try.zeroValue192
  t66 := Try.underlying193
  a66 := Try.isAgg193
  z66 := Try.sizeOf193
  v66 := Try.zeroValue193
  t70 := Try.underlying197
  a70 := Try.isAgg197
  z70 := Try.sizeOf197
  v70 := Try.zeroValue197
  t76 := Try.underlying199
  a76 := Try.isAgg199
  z76 := Try.sizeOf199
  v76 := Try.zeroValue199
  t77 := Try.underlying200
  a77 := Try.isAgg200
  z77 := Try.sizeOf200
  v77 := Try.zeroValue200 }
end Go.Proofs
