/- (A namespace that other texts open.) -/
import Derived.Test.YtipoblinefamgaaGTypes
namespace Go.Proofs.Ytipoblinefamgaa.Cut
end Go.Proofs.Ytipoblinefamgaa.Cut
