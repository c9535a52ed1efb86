/-
  DERIVED: THE SHELF's CONTRACTS AT THIS DUMP, IN PLAIN WORDS (tools/lay-plain.mjs out of 'YtepcdhpikpmepaaGreatYSBraw.lean', which tools/lay-shelf.mjs wrote): THE SAME DECLARATIONS UNDER THE SAME NAMES: 'import', 'namespace', 'open', 'def', 'theorem' AND NOTHING ELSE: no command of the shelf's: FOR A HAND-IN. Each laying: the table of numbers ('.._ren') and one theorem, a field a fact of the dump's own or the kernel's comparison; each contract: ONE APPLICATION.
-/
import Derived.Shelf.Bits.Mul64
import Derived.Ground.NamesProg
import Derived.Test.YtepcdhpikpmepaaGreatProg
namespace Go.Proofs
open Go.Shelf
def Tryz.laysMulYtepcdhpikpmepaaGreat_ren : Go.Shelf.Ren := ⟨fun | 264 => 136 | n => n, fun | 53 => 183 | 46 => 158 | n => n, fun | n => n⟩
theorem Tryz.laysMulYtepcdhpikpmepaaGreat : Go.Proofs.Lays.n264 Tryz.prog Tryz.laysMulYtepcdhpikpmepaaGreat_ren := {
  mixed := by kernel_rfl
  f264 := Tryz.func136.trans (congrArg some (by kernel_rfl))
  t46 := Tryz.underlying158
  a46 := Tryz.isAgg158
  z46 := Tryz.sizeOf158
  v46 := Tryz.zeroValue158
  t53 := Tryz.underlying183
  a53 := Tryz.isAgg183
  z53 := Tryz.sizeOf183
  v53 := Tryz.zeroValue183 }
end Go.Proofs
