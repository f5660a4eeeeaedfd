/- Data that come in, with the bounds that memory sets: each list, each text. -/
import Derived.Test.YtipoblinefamgaaOpen
set_option linter.unusedVariables false
namespace Go.Eng
open Go.RowKit
set_option linter.unusedSectionVars false
variable [Inhabited Keep] [Inhabited Hard]

section
variable {P : Program} {t : TypeId}
end
end Go.Eng
