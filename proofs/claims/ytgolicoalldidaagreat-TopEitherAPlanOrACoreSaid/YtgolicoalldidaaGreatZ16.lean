import Derived.Shelf.Bits.Mul64
import Derived.Test.YtgolicoalldidaaGreatProg
set_option maxHeartbeats 12800000
namespace Go.Proofs
open Go.Shelf
def Tryz.laysMulYtgolicoalldidaaGreat_ren : Go.Shelf.Ren := ⟨fun | 264 => 155 | n => n, fun | 53 => 204 | 46 => 180 | n => n, fun | n => n⟩
theorem Tryz.laysMulYtgolicoalldidaaGreat : Go.Proofs.Lays.n264 Tryz.prog Tryz.laysMulYtgolicoalldidaaGreat_ren := {
  mixed := by kernel_rfl
  f264 := Tryz.func155.trans (congrArg some (by kernel_rfl))
  t46 := Tryz.underlying180
  a46 := Tryz.isAgg180
  z46 := Tryz.sizeOf180
  v46 := Tryz.zeroValue180
  t53 := Tryz.underlying204
  a53 := Tryz.isAgg204
  z53 := Tryz.sizeOf204
  v53 := Tryz.zeroValue204 }
end Go.Proofs
