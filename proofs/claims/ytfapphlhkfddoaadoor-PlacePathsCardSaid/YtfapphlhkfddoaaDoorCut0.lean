/- (A namespace that other texts open.) -/
import Derived.Test.YtfapphlhkfddoaaDoorGTypes
namespace Go.Proofs.YtfapphlhkfddoaaDoor.Cut
theorem here : True := trivial
end Go.Proofs.YtfapphlhkfddoaaDoor.Cut
