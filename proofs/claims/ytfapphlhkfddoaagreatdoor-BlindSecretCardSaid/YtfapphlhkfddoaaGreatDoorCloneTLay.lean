/- The shelf's laying of a generic library function at this program: as the kit's command spells it. -/
import Derived.Shelf.SlLaysN
import Derived.Test.YtfapphlhkfddoaaGreatDoorChecked
import Derived.KernelRfl
namespace Go.Proofs
open Go.Shelf
def Tryz.cloneT_ren : Go.Shelf.Ren := ⟨fun | 42 => 141 | n => n, fun | 25 => 32 | 26 => 28 | 4 => 4 | n => n, fun | n => n⟩
theorem Tryz.cloneT : Go.Proofs.SlLaysN.n42 Tryz.prog Tryz.cloneT_ren := {
  mixed := by kernel_rfl,
  f42 := ⟨Tryz.f141.name, by decide, Tryz.func141.trans (congrArg some (by kernel_rfl))⟩,
  t4 := Tryz.underlying4,
  a4 := Tryz.isAgg4,
  z4 := Tryz.sizeOf4,
  v4 := Tryz.zeroValue4,
  t25 := Tryz.underlying32,
  a25 := Tryz.isAgg32,
  z25 := Tryz.sizeOf32,
  v25 := Tryz.zeroValue32,
  t26 := Tryz.underlying28,
  a26 := Tryz.isAgg28,
  z26 := Tryz.sizeOf28,
  v26 := Tryz.zeroValue28,
  i26 := by kernel_rfl }
end Go.Proofs
