/- The shelf's laying of a generic library function at this program: as the kit's command spells it. -/
import Derived.Shelf.Lays
import Derived.Test.YtgomlcfoifkdiaaChecked
import Derived.KernelRfl
namespace Go.Proofs
open Go.Shelf
def Try.compareS_ren : Go.Shelf.Ren := ⟨fun | 106 => 117 | 213 => 147 | 265 => 183 | n => n, fun | 9 => 9 | 3 => 3 | n => n, fun | n => n⟩
theorem Try.compareS : Go.Proofs.Lays.n106 Try.prog Try.compareS_ren := {
  mixed := by kernel_rfl,
  f106 := Try.func117.trans (congrArg some (by kernel_rfl)),
  f213 := Try.func147.trans (congrArg some (by kernel_rfl)),
  f265 := Try.func183.trans (congrArg some (by kernel_rfl)),
  t3 := Try.underlying3,
  a3 := Try.isAgg3,
  z3 := Try.sizeOf3,
  v3 := Try.zeroValue3,
  t9 := Try.underlying9,
  a9 := Try.isAgg9,
  z9 := Try.sizeOf9,
  v9 := Try.zeroValue9 }
end Go.Proofs
