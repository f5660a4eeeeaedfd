/- The shelf's laying of a generic library function at this program: as the kit's command spells it. -/
import Derived.Shelf.SlLaysN
import Derived.Test.YtfapphlhkfddoaaGreatDoorChecked
import Derived.KernelRfl
namespace Go.Proofs
open Go.Shelf
def Tryz.deleteT_ren : Go.Shelf.Ren := ⟨fun | 46 => 143 | n => n, fun | 25 => 32 | 26 => 28 | 3 => 3 | 4 => 4 | 0 => 0 | n => n, fun | n => n⟩
theorem Tryz.deleteT : Go.Proofs.SlLaysN.n46 Tryz.prog Tryz.deleteT_ren := {
  mixed := by kernel_rfl,
  f46 := ⟨Tryz.f143.name, by decide, Tryz.func143.trans (congrArg some (by kernel_rfl))⟩,
  t0 := Tryz.underlying0,
  a0 := Tryz.isAgg0,
  z0 := Tryz.sizeOf0,
  v0 := Tryz.zeroValue0,
  t3 := Tryz.underlying3,
  a3 := Tryz.isAgg3,
  z3 := Tryz.sizeOf3,
  v3 := Tryz.zeroValue3,
  t4 := Tryz.underlying4,
  a4 := Tryz.isAgg4,
  z4 := Tryz.sizeOf4,
  v4 := Tryz.zeroValue4,
  t25 := Tryz.underlying32,
  a25 := Tryz.isAgg32,
  z25 := Tryz.sizeOf32,
  v25 := Tryz.zeroValue32,
  t26 := Tryz.underlying28,
  a26 := Tryz.isAgg28,
  z26 := Tryz.sizeOf28,
  v26 := Tryz.zeroValue28,
  i26 := by kernel_rfl }
end Go.Proofs
