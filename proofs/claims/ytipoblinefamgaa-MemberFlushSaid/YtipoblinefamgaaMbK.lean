/- Chapter 12, one node: what it is told of who should be together, as it is reckoned. -/
import Derived.Test.YtipoblinefamgaaPackM
import Derived.Test.YtipoblinefamgaaML
namespace Go.Proofs.Ytipoblinefamgaa.G
open Go.RowKit Go.Eng Go.Proofs Go.Proofs.Ytipoblinefamgaa.Cut
set_option linter.unusedVariables false
set_option linter.unusedSimpArgs false

end Go.Proofs.Ytipoblinefamgaa.G
