/- The shelf's laying of a generic library function at this program: as the kit's command spells it. -/
import Derived.Shelf.Lays
import Derived.Test.YtfapphlhkfddoaaDoorChecked
import Derived.KernelRfl
namespace Go.Proofs
open Go.Shelf
def Tryd.compareS_ren : Go.Shelf.Ren := ⟨fun | 106 => 52 | 213 => 72 | 265 => 94 | n => n, fun | 9 => 9 | 3 => 3 | n => n, fun | n => n⟩
theorem Tryd.compareS : Go.Proofs.Lays.n106 Tryd.prog Tryd.compareS_ren := {
  mixed := by kernel_rfl,
  f106 := Tryd.func52.trans (congrArg some (by kernel_rfl)),
  f213 := Tryd.func72.trans (congrArg some (by kernel_rfl)),
  f265 := Tryd.func94.trans (congrArg some (by kernel_rfl)),
  t3 := Tryd.underlying3,
  a3 := Tryd.isAgg3,
  z3 := Tryd.sizeOf3,
  v3 := Tryd.zeroValue3,
  t9 := Tryd.underlying9,
  a9 := Tryd.isAgg9,
  z9 := Tryd.sizeOf9,
  v9 := Tryd.zeroValue9 }
end Go.Proofs
