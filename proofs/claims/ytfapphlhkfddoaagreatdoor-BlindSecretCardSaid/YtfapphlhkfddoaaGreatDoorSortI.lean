/- slices.Sort at numbers and at texts: the kit's contracts, at this program. -/
import Derived.Test.YtfapphlhkfddoaaGreatDoorSorts1
import Derived.Test.YtfapphlhkfddoaaGreatDoorSortIntLay
import Derived.Shelf.Sort.Plain
namespace Go.Proofs.YtfapphlhkfddoaaGreatDoor.G
open Go.RowKit Go.Eng Go.Proofs Go.Sort
def sortZ (l : List Int) : List Int := l.mergeSort fun x y => decide (x ≤ y)
theorem sortZ_len (l : List Int) : (sortZ l).length = l.length := (List.mergeSort_perm _ _).length_eq
theorem sortI_at : SortsAt Tryz.prog 96 (Value.int .i64) sortZ := fun blk off cap zs w hH hb hs => Any.slices_Sort_int Tryz.sortI blk off cap zs w hH hb hs
end Go.Proofs.YtfapphlhkfddoaaGreatDoor.G
