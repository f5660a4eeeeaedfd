/- slices.Sort at texts: the kit's contract, at this program. -/
import Derived.Test.YtfapphlhkfddoaaGreatDoorSortI
import Derived.Test.YtfapphlhkfddoaaGreatDoorSortStrLay
namespace Go.Proofs.YtfapphlhkfddoaaGreatDoor.G
open Go.RowKit Go.Eng Go.Proofs Go.Sort
def sortB (l : List (List UInt8)) : List (List UInt8) := l.mergeSort fun x y => decide (x ≤ y)
theorem sortB_len (l : List (List UInt8)) : (sortB l).length = l.length := (List.mergeSort_perm _ _).length_eq
theorem sortS_at : SortsAt Tryz.prog 81 encStr sortB := fun blk off cap zs w hH hb hs => Any.slices_Sort_string Tryz.sortS blk off cap zs w hH hb hs
end Go.Proofs.YtfapphlhkfddoaaGreatDoor.G
