/- (A namespace that other texts open.) -/
import Derived.Test.YtfapphlhkfddoaaGreatDoorGTypes
namespace Go.Proofs.YtfapphlhkfddoaaGreatDoor.Cut
theorem here : True := trivial
end Go.Proofs.YtfapphlhkfddoaaGreatDoor.Cut
