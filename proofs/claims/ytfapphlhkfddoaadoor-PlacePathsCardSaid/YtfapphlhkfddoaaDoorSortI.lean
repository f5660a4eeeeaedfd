/- slices.Sort at numbers and at texts: the kit's contracts, at this program. -/
import Derived.Test.YtfapphlhkfddoaaDoorSorts1
import Derived.Test.YtfapphlhkfddoaaDoorSortIntLay
import Derived.Shelf.Sort.Plain
namespace Go.Proofs.YtfapphlhkfddoaaDoor.G
open Go.RowKit Go.Eng Go.Proofs Go.Sort
def sortZ (l : List Int) : List Int := l.mergeSort fun x y => decide (x ≤ y)
theorem sortZ_len (l : List Int) : (sortZ l).length = l.length := (List.mergeSort_perm _ _).length_eq
theorem sortI_at : SortsAt Tryd.prog 44 (Value.int .i64) sortZ := fun blk off cap zs w hH hb hs => Any.slices_Sort_int Tryd.sortI blk off cap zs w hH hb hs
end Go.Proofs.YtfapphlhkfddoaaDoor.G
