/- slices.Sort at numbers and at texts: the kit's contracts, at this program. -/
import Derived.Test.YtgomlcfoifkdiaaSorts1
import Derived.Test.YtgomlcfoifkdiaaSortIntLay
import Derived.Test.YtgomlcfoifkdiaaSortStrLay
import Derived.Shelf.Sort.Plain
namespace Go.Proofs.Ytgomlcfoifkdiaa.G
open Go.RowKit Go.Eng Go.Proofs Go.Sort
def sortZ (l : List Int) : List Int := l.mergeSort fun x y => decide (x ≤ y)
theorem sortZ_len (l : List Int) : (sortZ l).length = l.length := (List.mergeSort_perm _ _).length_eq
theorem sortI_at : SortsAt Try.prog 150 (Value.int .i64) sortZ := fun blk off cap zs w hH hb hs => Any.slices_Sort_int Try.sortI blk off cap zs w hH hb hs
def sortB (l : List (List UInt8)) : List (List UInt8) := l.mergeSort fun x y => decide (x ≤ y)
theorem sortB_len (l : List (List UInt8)) : (sortB l).length = l.length := (List.mergeSort_perm _ _).length_eq
theorem sortS_at : SortsAt Try.prog 96 encStr sortB := fun blk off cap zs w hH hb hs => Any.slices_Sort_string Try.sortS blk off cap zs w hH hb hs
end Go.Proofs.Ytgomlcfoifkdiaa.G
