/- The shelf's laying of a generic library function at this program: as the kit's command spells it. -/
import Derived.Shelf.Lays
import Derived.Test.YtfapphlhkfddoaaGreatDoorChecked
import Derived.KernelRfl
namespace Go.Proofs
open Go.Shelf
def Tryz.compareS_ren : Go.Shelf.Ren := ⟨fun | 106 => 149 | 213 => 196 | 265 => 215 | n => n, fun | 9 => 9 | 3 => 3 | n => n, fun | n => n⟩
theorem Tryz.compareS : Go.Proofs.Lays.n106 Tryz.prog Tryz.compareS_ren := {
  mixed := by kernel_rfl,
  f106 := Tryz.func149.trans (congrArg some (by kernel_rfl)),
  f213 := Tryz.func196.trans (congrArg some (by kernel_rfl)),
  f265 := Tryz.func215.trans (congrArg some (by kernel_rfl)),
  t3 := Tryz.underlying3,
  a3 := Tryz.isAgg3,
  z3 := Tryz.sizeOf3,
  v3 := Tryz.zeroValue3,
  t9 := Tryz.underlying9,
  a9 := Tryz.isAgg9,
  z9 := Tryz.sizeOf9,
  v9 := Tryz.zeroValue9 }
end Go.Proofs
